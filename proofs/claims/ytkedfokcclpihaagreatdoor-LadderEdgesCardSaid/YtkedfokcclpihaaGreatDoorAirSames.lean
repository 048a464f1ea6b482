/- AIR: what an operation that reads or changes memory depends on. -/
import Derived.Test.YtkedfokcclpihaaGreatDoorAirQuiet
import Derived.Orders
set_option linter.unusedSectionVars false
set_option linter.unusedSimpArgs false
set_option linter.unusedVariables false
set_option linter.unnecessarySimpa false
namespace Go.Air

/-- Two states that an operation cannot tell apart. -/
structure Same (l : List Atom) (s s' : St) : Prop where
  ad : ∀ x ∈ l, s'.ad x = s.ad x
  hp : s'.hp = s.hp
  nx : s'.nx = s.nx
  dfs : s'.dfs = s.dfs
  rc : s'.rc = s.rc
  box : ∀ x ∈ l, ∀ u off, s.ad x = some (.lp u off) → boxOf (lget s'.env u) = boxOf (lget s.env u)

/-- What gives the same in two such states, and does the same to them. -/
def Mt (l : List Atom) (s s' : St) (r r' : OpR) : Prop :=
  ∀ e s1, r = some (e, s1) → ∃ s1', r' = some (e, s1') ∧ s1'.hp = s1.hp ∧ s1'.nx = s1.nx ∧ s1'.dfs = s1.dfs ∧ s1'.rc = s1.rc ∧ s1.rc = s.rc ∧
    ((s1.env = s.env ∧ s1'.env = s'.env) ∨ ∃ u cs, s1.env = (u, .box cs) :: s.env ∧ s1'.env = (u, .box cs) :: s'.env ∧ (∃ x ∈ l, ∃ off, s.ad x = some (.lp u off)) ∧ (∃ ds, lget s.env u = some (.box ds)))

section
variable {l : List Atom} {s s' : St}
theorem Mt.none : Mt l s s' none none := fun _ _ h => by cases h
theorem Mt.of_qt {r r' : OpR} (m : Same l s s') (h : Qt s s' r r') : Mt l s s' r r' := fun e s1 hr => by
  obtain ⟨rfl, h2⟩ := h e s1 hr
  exact ⟨s', h2, m.hp, m.nx, m.dfs, m.rc, rfl, .inl ⟨rfl, rfl⟩⟩
theorem Mt.gd (b : Bool) {r r' : OpR} (h : Mt l s s' r r') : Mt l s s' (Air.gd b r) (Air.gd b r') := by
  cases b with
  | true => exact h
  | false => exact Mt.none
theorem Mt.set (m : Same l s s') (e : E) (h : Heap) (n : Nat) (d : List (V × List V)) : Mt l s s' (some (e, ⟨s.env, h, n, d, s.rc⟩)) (some (e, ⟨s'.env, h, n, d, s'.rc⟩)) := fun e' s1 hr => by
  cases hr
  exact ⟨_, rfl, rfl, rfl, rfl, m.rc, rfl, .inl ⟨rfl, rfl⟩⟩
theorem Mt.new (m : Same l s s') (x : V) (o : Obj) : Mt l s s' (s.mkO x o) (s'.mkO x o) := by
  unfold St.mkO St.new
  rw [m.hp, m.nx, m.dfs]
  exact Mt.set m _ _ _ _
theorem Mt.heap (m : Same l s s') (e : E) (h : Heap) : Mt l s s' (some (e, s.heap h)) (some (e, s'.heap h)) := by
  unfold St.heap
  rw [m.nx, m.dfs]
  exact Mt.set m _ _ _ _

theorem at_same {x : Atom} (m : Same l s s') (hx : x ∈ l) : s'.atO (s'.ad x) = s.atO (s.ad x) := by
  rw [m.ad x hx]
  cases ha : s.ad x with
  | none => rfl
  | some e =>
    show s'.at_ e = s.at_ e
    cases e with
    | v y =>
      cases y with
      | ptr id off => show dropO off (objCells (hget s'.hp id)) = dropO off (objCells (hget s.hp id)); rw [m.hp]
      | _ => rfl
    | lp u off => show dropO off (boxOf (lget s'.env u)) = dropO off (boxOf (lget s.env u)); rw [m.box x hx u off ha]
    | box cs => rfl
theorem row_same (m : Same l s s') (sz : Nat) (x : V) : s'.row sz x = s.row sz x := by
  cases x with
  | msl id off n => show rowOf off n sz (objCells (hget s'.hp id)) = rowOf off n sz (objCells (hget s.hp id)); rw [m.hp]
  | _ => rfl

theorem store_same {x : Atom} {e : E} {xs : List V} (m : Same l s s') (hx : x ∈ l) (ha : s.ad x = some e) :
    Mt l s s' (match s.store e xs with | some s1 => some (.v (.tup []), s1) | none => none) (match s'.store e xs with | some s1 => some (.v (.tup []), s1) | none => none) := by
  cases e with
  | v y =>
    cases y with
    | ptr id off =>
      show Mt l s s' (match s.stp id off xs (hget s.hp id) with | some s1 => some (.v (.tup []), s1) | none => none) (match s'.stp id off xs (hget s'.hp id) with | some s1 => some (.v (.tup []), s1) | none => none)
      rw [m.hp]
      unfold St.stp
      split
      · rename_i s1 hs1
        split at hs1
        · split at hs1
          · rename_i cs' hw
            cases hs1
            simp only [hw, m.hp]
            exact Mt.heap m _ _
          · cases hs1
        · cases hs1
      · exact fun _ _ h => by cases h
    | _ => exact Mt.none
  | box cs => exact Mt.none
  | lp u off =>
    show Mt l s s' (match s.stl u off xs (boxOf (lget s.env u)) with | some s1 => some (.v (.tup []), s1) | none => none) (match s'.stl u off xs (boxOf (lget s'.env u)) with | some s1 => some (.v (.tup []), s1) | none => none)
    rw [m.box x hx u off ha]
    cases hl : lget s.env u with
    | none => exact Mt.none
    | some e' =>
      cases e' with
      | v _ => exact Mt.none
      | lp _ _ => exact Mt.none
      | box ds =>
        show Mt l s s' (match (match wr ds off xs with | some cs' => some (s.put (some u) (.box cs')) | none => none) with | some s1 => some (.v (.tup []), s1) | none => none)
          (match (match wr ds off xs with | some cs' => some (s'.put (some u) (.box cs')) | none => none) with | some s1 => some (.v (.tup []), s1) | none => none)
        cases hw : wr ds off xs with
        | none => exact Mt.none
        | some cs' =>
          intro e1 s1 hr
          cases hr
          exact ⟨_, rfl, m.hp, m.nx, m.dfs, m.rc, rfl, .inr ⟨u, cs', rfl, rfl, ⟨x, hx, off, ha⟩, ds, hl⟩⟩
end
end Go.Air

/- AIR: every operation, in two states that it cannot tell apart. -/
namespace Go.Air

section
variable {s s' : St} {call : Caller} {ms : Meths}

theorem call_same {l : List Atom} (m : Same l s s') (t : Option (Nat × List V)) : Mt l s s' (evCall call s t) (evCall call s' t) := by
  unfold evCall
  split
  · rename_i f xs
    rw [m.hp, m.nx]
    unfold callR
    split
    · rw [m.dfs]; exact Mt.set m _ _ _ _
    · exact Mt.none
  · exact Mt.none

theorem same_ok {op : AOp} (m : Same op.atoms s s') : Mt op.atoms s s' (evStep call ms op s) (evStep call ms op s') := by
  by_cases hq : op.quiet = true
  · exact Mt.of_qt m (quiet_ok hq m.ad)
  have hv : ∀ x ∈ op.atoms, s'.v x = s.v x := fun x hx => by rw [v_ad s', v_ad s, m.ad x hx]
  cases op with
  | box z => exact Mt.of_qt m (Qt.some _)
  | boxv sz x =>
    show Mt _ s s' (evBoxv sz x s) (evBoxv sz x s')
    unfold evBoxv
    rw [hv x (by simp [AOp.atoms])]
    split
    · split
      · exact Mt.of_qt m (Qt.some _)
      · exact Mt.none
    · exact Mt.none
  | halloc t z => show Mt _ s s' (s.mkO (.ptr s.nx 0) _) (s'.mkO (.ptr s'.nx 0) _); rw [m.nx]; exact Mt.new m _ _
  | hboxv t sz x =>
    show Mt _ s s' (evHboxv t sz x s) (evHboxv t sz x s')
    unfold evHboxv
    rw [hv x (by simp [AOp.atoms]), m.nx]
    split
    · split
      · exact Mt.new m _ _
      · exact Mt.none
    · exact Mt.none
  | mkmsl t sz z n ps =>
    show Mt _ s s' (evMkmsl t sz z n ps s) (evMkmsl t sz z n ps s')
    unfold evMkmsl
    rw [parts_agree (rows sz ps) fun x hx => m.ad x (by rw [rows_atoms] at hx; exact hx), m.nx]
    split
    · exact Mt.new m _ _
    · exact Mt.none
  | load sz ag x =>
    show Mt _ s s' (evLoad sz ag x s) (evLoad sz ag x s')
    unfold evLoad
    rw [at_same m (x := x) (by simp [AOp.atoms])]
    exact Mt.of_qt m (Qt.opt _)
  | store sz x y =>
    show Mt _ s s' (evStore sz x y s) (evStore sz x y s')
    unfold evStore
    rw [hv y (by simp [AOp.atoms]), m.ad x (by simp [AOp.atoms])]
    split
    · split
      · cases ha : s.ad x with
        | none => exact Mt.none
        | some e => exact store_same m (x := x) (by simp [AOp.atoms]) ha
      · exact Mt.none
    · exact Mt.none
  | conv c x =>
    show Mt _ s s' (evConv c x s) (evConv c x s')
    unfold evConv
    rw [hv x (by simp [AOp.atoms])]
    split
    · rename_i y _
      cases c with
      | wrap k => exact absurd rfl hq
      | same => exact absurd rfl hq
      | s2b e =>
        show Mt _ s s' (convS2b e s y) (convS2b e s' y)
        cases y with
        | str b => show Mt _ s s' (s.mkO (.msl s.nx 0 _) _) (s'.mkO (.msl s'.nx 0 _) _); rw [m.nx]; exact Mt.new m _ _
        | _ => exact Mt.none
      | b2s =>
        show Mt _ s s' (s.opt (bytesO (s.rowS 1 y))) (s'.opt (bytesO (s'.rowS 1 y)))
        have : s'.rowS 1 y = s.rowS 1 y := by
          cases y with
          | msl id off n => exact row_same m 1 (.msl id off n)
          | _ => rfl
        rw [this]
        exact Mt.of_qt m (Qt.opt _)
    · exact Mt.none
  | mkmap t => show Mt _ s s' (s.mkO (.map s.nx) _) (s'.mkO (.map s'.nx) _); rw [m.nx]; exact Mt.new m _ _
  | mksl t sz z x y =>
    show Mt _ s s' (evMksl t sz z x y s) (evMksl t sz z x y s')
    unfold evMksl
    rw [nat_agree (m.ad x (by simp [AOp.atoms])), nat_agree (m.ad y (by simp [AOp.atoms])), m.nx]
    split
    · split
      · exact Mt.gd _ (Mt.new m _ _)
      · exact Mt.none
    · exact Mt.none
  | slsl sz x lo hi mx =>
    show Mt _ s s' (evSlsl sz x lo hi mx s) (evSlsl sz x lo hi mx s')
    have three : ∀ d (mx' : Option Atom) (f : Nat → Nat → Nat → Option V), (mx' = mx ∨ mx' = none) → Qt s s' (s.three d lo hi mx' f) (s'.three d lo hi mx' f) := by
      intro d mx' f hmx
      unfold St.three
      rw [optNat_agree (x := lo) fun z hz => m.ad z (by simp [AOp.atoms, hz]), optNat_agree (x := hi) fun z hz => m.ad z (by simp [AOp.atoms, hz]),
        optNat_agree (x := mx') fun z hz => m.ad z (by
          rcases hmx with rfl | rfl
          · simp [AOp.atoms, hz]
          · simp [optA] at hz)]
      split
      · split
        · split
          · exact Qt.opt _
          · exact Qt.none
        · exact Qt.none
      · exact Qt.none
    unfold evSlsl
    rw [hv x (by simp [AOp.atoms]), m.hp]
    split
    · exact Mt.of_qt m (three _ _ _ (.inl rfl))
    · exact Mt.of_qt m (three _ _ _ (.inl rfl))
    · split
      · exact Mt.of_qt m (three _ _ _ (.inr rfl))
      · exact Mt.none
    · exact Mt.none
  | lookup b z x k ok =>
    show Mt _ s s' (evLookup b z x k ok s) (evLookup b z x k ok s')
    unfold evLookup
    rw [hv x (by simp [AOp.atoms]), hv k (by simp [AOp.atoms]), m.hp]
    split
    · split
      · exact Mt.of_qt m (Qt.val _)
      · exact Mt.of_qt m (Qt.opt _)
      · exact Mt.none
    · exact Mt.none
  | mapset b mm k x =>
    show Mt _ s s' (evMapset b mm k x s) (evMapset b mm k x s')
    unfold evMapset
    rw [hv mm (by simp [AOp.atoms]), hv k (by simp [AOp.atoms]), hv x (by simp [AOp.atoms]), m.hp]
    split
    · split
      · split
        · split
          · unfold St.mapTo
            split
            · rw [m.hp]; exact Mt.heap m _ _
            · exact Mt.none
          · exact Mt.none
        · exact Mt.none
      · exact Mt.none
    · exact Mt.none
  | delete b mm k =>
    show Mt _ s s' (evDelete b mm k s) (evDelete b mm k s')
    unfold evDelete
    rw [hv mm (by simp [AOp.atoms]), hv k (by simp [AOp.atoms]), m.hp]
    split
    · split
      · split
        · unfold St.mapTo
          split
          · rw [m.hp]; exact Mt.heap m _ _
          · exact Mt.none
        · exact Mt.none
      · exact Mt.none
    · exact Mt.none
  | len kd x =>
    show Mt _ s s' (evLen kd x s) (evLen kd x s')
    unfold evLen
    rw [hv x (by simp [AOp.atoms]), m.hp]
    split
    · exact Mt.gd _ (Mt.of_qt m (Qt.val _))
    · exact Mt.gd _ (Mt.of_qt m (Qt.val _))
    · exact Mt.gd _ (Mt.of_qt m (Qt.val _))
    · exact Mt.gd _ (Mt.of_qt m (Qt.val _))
    · exact Mt.gd _ (Mt.of_qt m (Qt.val _))
    · exact Mt.gd _ (Mt.of_qt m (Qt.opt _))
    · exact Mt.none
  | append t sz x y =>
    show Mt _ s s' (evAppend t sz x y s) (evAppend t sz x y s')
    unfold evAppend
    rw [hv x (by simp [AOp.atoms]), hv y (by simp [AOp.atoms])]
    split
    · split
      · rw [row_same m]
        split
        · unfold appendTo
          split
          · split
            · exact Mt.of_qt m (Qt.val _)
            · exact Mt.of_qt m (Qt.val _)
            · exact Mt.of_qt m (Qt.val _)
            · exact Mt.none
          · split
            · rw [m.nx]; exact Mt.gd _ (Mt.new m _ _)
            · rw [m.hp]
              unfold St.grow
              split
              · refine Mt.gd _ ?_
                unfold St.new St.heap
                rw [m.hp, m.nx, m.dfs]
                exact Mt.set m _ _ _ _
              · exact Mt.none
            · exact Mt.none
        · exact Mt.none
      · exact Mt.none
    · exact Mt.none
  | copy sz x y =>
    show Mt _ s s' (evCopy sz x y s) (evCopy sz x y s')
    unfold evCopy
    rw [hv x (by simp [AOp.atoms]), hv y (by simp [AOp.atoms])]
    split
    · rw [row_same m]
      split
      · split
        · rw [m.hp]
          unfold St.copyTo
          split
          · split
            · rw [m.hp]; exact Mt.heap m _ _
            · exact Mt.none
          · exact Mt.none
        · exact Mt.of_qt m (Qt.val _)
        · exact Mt.none
      · exact Mt.none
    · exact Mt.none
  | call f xs =>
    show Mt _ s s' (evCall call s (tgtCall ms s f xs)) (evCall call s' (tgtCall ms s' f xs))
    have : tgtCall ms s' f xs = tgtCall ms s f xs := by
      unfold tgtCall
      rw [hv f (by simp [AOp.atoms]), vs_agree xs fun z hz => m.ad z (by simp [AOp.atoms, hz])]
    rw [this]
    exact call_same m _
  | invoke r n xs =>
    show Mt _ s s' (evCall call s (tgtInvoke ms s r n xs)) (evCall call s' (tgtInvoke ms s' r n xs))
    have : tgtInvoke ms s' r n xs = tgtInvoke ms s r n xs := by
      unfold tgtInvoke
      rw [hv r (by simp [AOp.atoms]), vs_agree xs fun z hz => m.ad z (by simp [AOp.atoms, hz])]
    rw [this]
    exact call_same m _
  | defer f xs =>
    show Mt _ s s' (evDefer f xs s) (evDefer f xs s')
    unfold evDefer
    rw [hv f (by simp [AOp.atoms]), vs_agree xs fun z hz => m.ad z (by simp [AOp.atoms, hz])]
    split
    · split
      · rw [m.hp, m.nx, m.dfs]; exact Mt.set m _ _ _ _
      · exact Mt.none
    · exact Mt.none
  | recover =>
    show Mt _ s s' (evRecover s) (evRecover s')
    unfold evRecover
    rw [m.rc]
    split
    · exact Mt.of_qt m (Qt.val _)
    · exact Mt.none
  | panic x => exact Mt.none
  | stuck => exact Mt.none
  | _ => exact absurd rfl hq
end
end Go.Air

namespace Go.Air
section
variable {s s' : St} {call : Caller} {ms : Meths}
theorem ad_notbox (x : Atom) (cs : List V) : s.ad x ≠ some (.box cs) := by
  cases x with
  | t i =>
    show adOf i (lget s.env i) ≠ _
    cases lget s.env i with
    | none => exact fun h => by cases h
    | some e => cases e <;> exact fun h => by cases h
  | c v => exact fun h => by cases h
  | bad => exact fun h => by cases h

def NB (r : OpR) : Prop := ∀ e s1, r = some (e, s1) → ∀ cs, e ≠ .box cs
theorem NB.none : NB none := fun _ _ h => by cases h
theorem NB.val (x : V) : NB (s.val x) := fun e s1 h => by cases h; exact fun _ => by simp
theorem NB.opt (r : Option V) : NB (s.opt r) := by
  cases r with
  | none => exact NB.none
  | some x => exact NB.val x
theorem NB.gd (b : Bool) {r : OpR} (h : NB r) : NB (Air.gd b r) := by
  cases b with
  | true => exact h
  | false => exact NB.none
theorem NB.optE {r : Option E} (h : ∀ cs, r ≠ some (.box cs)) : NB (s.optE r) := by
  cases r with
  | none => exact NB.none
  | some x => exact fun e s1 he cs hc => by cases he; subst hc; exact h cs rfl
theorem shift_notbox (off : Nat) (e : E) (cs : List V) : e.shift off ≠ some (.box cs) := by
  cases e with
  | v x => cases x <;> exact fun h => by cases h
  | box _ => exact fun h => by cases h
  | lp _ _ => exact fun h => by cases h
theorem NB.orElse {r q : OpR} (h1 : NB r) (h2 : NB q) : NB (orElse' r q) := by
  cases r with
  | none => exact h2
  | some x => exact h1
theorem quiet_notbox {op : AOp} (hq : op.quiet = true) : NB (evStep call ms op s) := by
  cases op with
  | mov x => exact NB.optE (ad_notbox x)
  | pick c x y =>
    show NB (evPick c x y s)
    unfold evPick
    split
    · rename_i t _; cases t <;> exact NB.opt _
    · exact NB.none
  | build z ps => show NB (evBuild z ps s); unfold evBuild; split; exact NB.val _; exact NB.none
  | mkisl sz ag z n ps => show NB (evMkisl sz ag z n ps s); unfold evMkisl; split; exact NB.gd _ (NB.val _); exact NB.none
  | nilchk x =>
    refine NB.orElse ?_ ?_
    · show NB (evNilchk x s)
      unfold evNilchk
      split
      · exact fun e s1 h cs hc => by subst hc; cases h
      · exact NB.gd _ (NB.val _)
      · exact NB.none
    · show NB (evNilM ms x s)
      unfold evNilM
      split
      · split
        · exact fun e s1 h cs hc => by subst hc; cases h
        · exact NB.none
      · exact NB.none
  | bin o x y => show NB (evBin o x y s); unfold evBin; split; split; exact NB.opt _; exact NB.none; exact NB.none
  | eqx k n x y => show NB (evEqx k n x y s); unfold evEqx; split; split; exact NB.opt _; exact NB.none; exact NB.none
  | un o x => show NB (evUn o x s); unfold evUn; split; exact NB.opt _; exact NB.none
  | conv c x =>
    show NB (evConv c x s)
    unfold evConv
    split
    · cases c with
      | wrap k => exact NB.opt _
      | same => exact NB.opt _
      | s2b e => cases hq
      | b2s => cases hq
    · exact NB.none
  | mkif t x => show NB (evMkif t x s); unfold evMkif; split; exact NB.val _; exact NB.none
  | mkfn f x y => show NB (evMkfn f x y s); unfold evMkfn; split; split; exact NB.val _; exact NB.none; exact NB.none
  | slstr x lo hi =>
    show NB (evSlstr x lo hi s)
    unfold evSlstr
    split
    · split
      · split
        · exact NB.opt _
        · exact NB.none
      · exact NB.none
    · exact NB.none
  | fieldA o x => show NB (evFieldA o x s); unfold evFieldA; split; exact NB.optE (shift_notbox _ _); exact NB.none
  | field o n ag x => exact NB.opt _
  | idxAsl sz x i =>
    show NB (evIdxAsl sz x i s)
    unfold evIdxAsl
    split
    · split
      · exact NB.gd _ (NB.opt _)
      · exact NB.gd _ (NB.val _)
      · exact NB.none
    · exact NB.none
  | idxAarr k n x i =>
    show NB (evIdxAarr k n x i s)
    unfold evIdxAarr
    split
    · refine NB.gd _ ?_
      split
      · exact NB.optE (shift_notbox _ _)
      · exact NB.none
    · exact NB.none
  | idxStr x i =>
    show NB (evIdxStr x i s)
    unfold evIdxStr
    split
    · split
      · exact NB.opt _
      · exact NB.none
    · exact NB.none
  | idxArr k n ag x i => show NB (evIdxArr k n ag x i s); unfold evIdxArr; split; exact NB.gd _ (NB.opt _); exact NB.none
  | tassert t z ok x =>
    show NB (evTassert t z ok x s)
    unfold evTassert
    split
    · split
      · exact NB.val _
      · exact NB.gd _ (NB.val _)
    · exact NB.gd _ (NB.val _)
    · exact NB.none
  | extract x i => show NB (evExtract x i s); unfold evExtract; split; exact NB.opt _; exact NB.none
  | mm b xs => exact NB.opt _
  | _ => cases hq
end
end Go.Air

/- AIR: the states of a region in the text's order. -/
namespace Go.Air

section
variable {call : Caller} {ms : Meths}

theorem evText_states : ∀ (l : List AOper) {s : St} {sn : List St}, evText call ms l s = some sn →
    sn.length = l.length + 1 ∧ sn[0]? = some s ∧ ∀ j o, l[j]? = some o → ∃ x y, sn[j]? = some x ∧ sn[j + 1]? = some y ∧ evOne call ms o x = some y
  | [], s, sn, h => by
    have h' : some [s] = some sn := h
    cases h'
    exact ⟨rfl, rfl, fun j o ho => by simp at ho⟩
  | p :: r, s, sn, h => by
    have h' : consS s (match evOne call ms p s with | some s' => evText call ms r s' | none => none) = some sn := h
    cases h1 : evOne call ms p s with
    | none => rw [h1] at h'; cases h'
    | some s1 =>
      rw [h1] at h'
      have h2 : consS s (evText call ms r s1) = some sn := h'
      cases h3 : evText call ms r s1 with
      | none => rw [h3] at h2; cases h2
      | some sm =>
        rw [h3] at h2
        cases h2
        obtain ⟨hl, h0, hstep⟩ := evText_states r h3
        refine ⟨by simp [hl], rfl, fun j o ho => ?_⟩
        cases j with
        | zero =>
          simp at ho
          subst ho
          exact ⟨s, s1, rfl, by simpa using h0, h1⟩
        | succ j => simpa using hstep j o (by simpa using ho)

theorem evOps_text : ∀ (l : List AOper) {s s' : St}, evOps call ms l s = some s' → ∃ sn, evText call ms l s = some sn ∧ sn[l.length]? = some s'
  | [], s, s', h => by
    have h' : some s = some s' := h
    cases h'
    exact ⟨[s], rfl, rfl⟩
  | p :: r, s, s', h => by
    have h' : thenS (evOne call ms p s) (evOps call ms r) = some s' := h
    unfold thenS at h'
    split at h'
    · rename_i s1 h1
      obtain ⟨sn, h2, h3⟩ := evOps_text r h'
      refine ⟨s :: sn, ?_, by simpa using h3⟩
      show consS s (match evOne call ms p s with | some s' => evText call ms r s' | none => none) = some (s :: sn)
      rw [h1]
      show consS s (evText call ms r s1) = _
      rw [h2]; rfl
    · cases h'

theorem lastS_eq : ∀ (sn : List St) (s : St), lastS sn s = (sn.getLast?).getD s
  | [], s => rfl
  | x :: r, s => by
    show lastS r x = _
    rw [lastS_eq r x, List.getLast?_cons]
    cases r.getLast? <;> rfl
end
end Go.Air

/- AIR: what comes ahead of an operation in every order. -/
namespace Go.Air

/-- The edges of an operation that bind in every order. -/
def owns (o : Oper) : List Nat := (o.after.toList.filter (Region.binds .any)).map (·.on)

theorem ancs_prefix : ∀ (l : List Oper) (acc : List (List Nat)) (j : Nat), j < acc.length → (ancs l acc)[j]? = acc[j]?
  | [], acc, j, _ => rfl
  | o :: r, acc, j, hj => by
    unfold ancs
    dsimp only
    rw [ancs_prefix r _ j (by simp; omega), List.getElem?_append_left hj]

theorem ancs_mem : ∀ (l : List Oper) (acc : List (List Nat)) (i : Nat) (o : Oper) (A : List Nat), l[i]? = some o → (ancs l acc)[acc.length + i]? = some A →
    ∀ k ∈ A, k ∈ owns o ∨ ∃ j ∈ owns o, ∃ B, (ancs l acc)[j]? = some B ∧ k ∈ B
  | [], acc, i, o, A, h, _ => by simp at h
  | p :: r, acc, i, o, A, h, hA => by
    unfold ancs at hA ⊢
    dsimp only at hA ⊢
    cases i with
    | zero =>
      simp only [List.getElem?_cons_zero, Option.some.injEq] at h
      subst h
      rw [ancs_prefix r _ _ (by simp)] at hA
      simp only [Nat.add_zero, List.getElem?_append_right (Nat.le_refl _), Nat.sub_self, List.getElem?_cons_zero, Option.some.injEq] at hA
      subst hA
      intro k hk
      rw [List.mem_eraseDups, List.mem_append, List.mem_flatMap] at hk
      rcases hk with hk | ⟨j, hj, hk⟩
      · exact .inl hk
      · refine .inr ⟨j, hj, ?_⟩
        cases hB : acc[j]? with
        | none => rw [hB] at hk; simp at hk
        | some B =>
          rw [hB] at hk
          have hlt := (List.getElem?_eq_some_iff.1 hB).1
          refine ⟨B, ?_, by simpa using hk⟩
          rw [ancs_prefix r _ j (by simp; omega), List.getElem?_append_left hlt, hB]
    | succ i =>
      refine ancs_mem r _ i o A (by simpa using h) ?_
      rw [List.length_append, List.length_singleton, show acc.length + 1 + i = acc.length + (i + 1) by omega]
      exact hA

theorem binds_any {md : Region.Mode} {e : Edge} (h : Region.binds .any e = true) : Region.binds md e = true := by
  unfold Region.binds at h ⊢
  split at h
  · cases h
  · cases h
  · rfl

/-- A set of operations that holds what comes ahead. -/
def Closed (ops : Array Oper) (listed : Array Bool) : Prop := ∀ i A, listed.getD i false = true → (ancs ops.toList [])[i]? = some A → ∀ k ∈ A, listed.getD k false = true

theorem ready_ancs {md : Region.Mode} {ops : Array Oper} {listed : Array Bool} (hc : Closed ops listed) {i : Nat} (hi : i ∈ Region.ready md ops listed) {A : List Nat} (hA : (ancs ops.toList [])[i]? = some A) :
    ∀ k ∈ A, listed.getD k false = true := by
  obtain ⟨_, o, ho, hall⟩ := mem_ready.1 hi
  have hown : ∀ k ∈ owns o, listed.getD k false = true := by
    intro k hk
    simp only [owns, List.mem_map, List.mem_filter] at hk
    obtain ⟨e, ⟨he, hb⟩, rfl⟩ := hk
    exact hall e (by simpa using he) (binds_any hb)
  intro k hk
  rcases ancs_mem ops.toList [] i o A (by rw [Array.getElem?_toList]; exact ho) (by simpa using hA) k hk with h | ⟨j, hj, B, hB, hkB⟩
  · exact hown k h
  · exact hc j B (hown j hj) hB k hkB

theorem closed_set {md : Region.Mode} {ops : Array Oper} {listed : Array Bool} (hc : Closed ops listed) {i : Nat} (hi : i ∈ Region.ready md ops listed) : Closed ops (listed.setIfInBounds i true) := by
  intro j A hj hA k hk
  by_cases hji : i = j
  · subst hji
    exact getD_set_true (ready_ancs hc hi hA k hk)
  · rw [getD_set_ne false hji] at hj
    exact getD_set_true (hc j A hj hA k hk)
end Go.Air
