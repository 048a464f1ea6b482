/- AIR: what one operation of a region that draws gives in two states. -/
import Derived.Test.YtkedfokcclpihaaGreatDoorAirSames
set_option linter.unusedSectionVars false
set_option linter.unusedSimpArgs false
set_option linter.unusedVariables false
set_option linter.unnecessarySimpa false
namespace Go.Air

mutual
theorem beqV_eq : ∀ (a b : V), beqV a b = true → a = b
  | .undef, b, h => by cases b <;> first | rfl | (simp [beqV] at h)
  | .bool x, b, h => by cases b <;> simp [beqV] at h; rw [h]
  | .int j x, b, h => by cases b <;> simp [beqV] at h; rw [h.1, h.2]
  | .str x, b, h => by cases b <;> simp [beqV, eqB_eq] at h; rw [h]
  | .nilp, b, h => by cases b <;> first | rfl | (simp [beqV] at h)
  | .ptr x y, b, h => by cases b <;> simp [beqV] at h; rw [h.1, h.2]
  | .iptr _, b, h => by cases b <;> simp [beqV] at h
  | .nsl, b, h => by cases b <;> first | rfl | (simp [beqV] at h)
  | .isl c y x, b, h => by
    cases b <;> simp [beqV] at h
    rw [h.1, h.2.1, beqVs_eq x _ h.2.2]
  | .msl x y z, b, h => by cases b <;> simp [beqV] at h; rw [h.1, h.2.1, h.2.2]
  | .nilmap, b, h => by cases b <;> first | rfl | (simp [beqV] at h)
  | .map x, b, h => by cases b <;> simp [beqV] at h; rw [h]
  | .nilfn, b, h => by cases b <;> first | rfl | (simp [beqV] at h)
  | .fn f x y, b, h => by
    cases f with
    | func k =>
      cases b with
      | fn g u v =>
        cases g with
        | func m =>
          simp [beqV] at h
          rw [h.1, beqVs_eq x _ h.2.1, beqVs_eq y _ h.2.2]
        | _ => simp [beqV] at h
      | _ => simp [beqV] at h
    | _ => cases b <;> simp [beqV] at h
  | .nili, b, h => by cases b <;> first | rfl | (simp [beqV] at h)
  | .iface t x, b, h => by
    cases b <;> simp [beqV] at h
    rw [h.1, beqV_eq x _ h.2]
  | .agg x, b, h => by
    cases b <;> simp [beqV] at h
    rw [beqVs_eq x _ h]
  | .tup x, b, h => by
    cases b <;> simp [beqV] at h
    rw [beqVs_eq x _ h]
theorem beqVs_eq : ∀ (a b : List V), beqVs a b = true → a = b
  | [], b, h => by cases b <;> simp [beqVs] at h; rfl
  | x :: r, b, h => by
    cases b with
    | nil => simp [beqVs] at h
    | cons y q =>
      simp [beqVs] at h
      rw [beqV_eq x y h.1, beqVs_eq r q h.2]
end

/-- An entry, a block's cells aside. -/
def sh : Option E → Option E
  | some (.box _) => some (.box [])
  | r => r
theorem sh_sh (r : Option E) : sh (sh r) = sh r := by cases r with | none => rfl | some e => cases e <;> rfl
theorem adOf_sh {i : Nat} {r q : Option E} (h : sh r = sh q) : adOf i r = adOf i q := by
  cases r with
  | none => cases q with
    | none => rfl
    | some f => cases f <;> simp [sh] at h
  | some e => cases q with
    | none => cases e <;> simp [sh] at h
    | some f => cases e <;> cases f <;> simp [sh] at h <;> simp [adOf, h]
theorem isB_sh {w : Bool} {r q : Option E} (h : sh r = sh q) : isB w r = isB w q := by
  cases r with
  | none => cases q with
    | none => rfl
    | some f => cases f <;> simp [sh] at h
  | some e => cases q with
    | none => cases e <;> simp [sh] at h
    | some f => cases e <;> cases f <;> simp [sh] at h <;> first | rfl | (rw [h])
theorem sh_box {r q : Option E} (h : sh r = sh q) (hb : boxOf r = boxOf q) : r = q := by
  cases r with
  | none => cases q with
    | none => rfl
    | some f => cases f <;> simp [sh] at h
  | some e => cases q with
    | none => cases e <;> simp [sh] at h
    | some f => cases e <;> cases f <;> simp [sh, boxOf] at h hb <;> first | rfl | (rw [hb]) | (simp [h])
theorem sh_isbox {r q : Option E} (h : sh r = sh q) {cs : List V} (hb : boxOf r = some cs) : ∃ ds, boxOf q = some ds := by
  cases r with
  | none => simp [boxOf] at hb
  | some e => cases q with
    | none => cases e <;> simp [sh] at h
    | some f => cases e <;> cases f <;> simp [sh, boxOf] at h hb ⊢
theorem boxOf_some {r : Option E} {cs : List V} (h : boxOf r = some cs) : r = some (.box cs) := by
  cases r with
  | none => cases h
  | some e => cases e <;> simp [boxOf] at h; rw [h]
theorem sh_of_box {r : Option E} {cs : List V} (h : boxOf r = some cs) : sh r = some (.box []) := by rw [boxOf_some h]; rfl

section
variable {s s' : St} {call : Caller} {ms : Meths}

/-- What gives a value. -/
def IsV (r : OpR) : Prop := ∀ e s1, r = some (e, s1) → ∃ x, e = .v x
theorem IsV.none : IsV none := fun _ _ h => by cases h
theorem IsV.val (x : V) : IsV (s.val x) := fun e s1 h => by cases h; exact ⟨x, rfl⟩
theorem IsV.some (x : V) (t : St) : IsV (some (.v x, t)) := fun e s1 h => by cases h; exact ⟨x, rfl⟩
theorem IsV.mkO (x : V) (o : Obj) : IsV (s.mkO x o) := fun e s1 h => by cases h; exact ⟨x, rfl⟩
theorem IsV.opt (r : Option V) : IsV (s.opt r) := by
  cases r with
  | none => exact IsV.none
  | some x => exact IsV.val x
theorem IsV.gd (b : Bool) {r : OpR} (h : IsV r) : IsV (Air.gd b r) := by
  cases b with
  | true => exact h
  | false => exact IsV.none
theorem IsV.callR (r : Option CR) : IsV (callR s r) := by
  unfold Air.callR
  split
  · exact IsV.some _ _
  · exact IsV.none
theorem IsV.evCall (r : Option (Nat × List V)) : IsV (evCall call s r) := by
  unfold Air.evCall
  split
  · exact IsV.callR _
  · exact IsV.none

/-- A value, or an address within a block of which an operand gave one. -/
def KindR (s : St) (l : List Atom) (r : OpR) : Prop := ∀ e s1, r = some (e, s1) → (∃ x, e = .v x) ∨ ∃ u off, e = .lp u off ∧ ∃ x ∈ l, ∃ o', s.ad x = some (.lp u o')
theorem IsV.kind {r : OpR} (h : IsV r) (l : List Atom) : KindR s l r := fun e s1 hr => .inl (h e s1 hr)

theorem shift_kind {off : Nat} {x : E} {e : E} (h : x.shift off = some e) : (∃ y, e = .v y) ∨ ∃ u o o', e = .lp u o ∧ x = .lp u o' := by
  cases x with
  | v y =>
    unfold E.shift at h
    split at h
    · rename_i z hz
      split at h <;> first | (cases h; exact .inl ⟨_, rfl⟩) | cases h
    · rename_i hz; cases hz
    · cases h
  | box _ => cases h
  | lp u o => cases h; exact .inr ⟨u, _, o, rfl, rfl⟩


theorem kind_ok {op : AOp} (hb : isBoxOp op = false) : KindR s op.atoms (evStep call ms op s) := by
  have optE : ∀ (l : List Atom) (r : Option E), (∀ e, r = some e → (∃ x, e = .v x) ∨ ∃ u off, e = .lp u off ∧ ∃ x ∈ l, ∃ o', s.ad x = some (.lp u o')) → KindR s l (s.optE r) := by
    intro l r h e s1 he
    cases r with
    | none => cases he
    | some x => cases he; exact h e rfl
  cases op with
  | mov x =>
    refine optE _ _ fun e he => ?_
    cases e with
    | v y => exact .inl ⟨y, rfl⟩
    | box cs => exact absurd he (ad_notbox x cs)
    | lp u off => exact .inr ⟨u, off, rfl, x, by simp [AOp.atoms], off, he⟩
  | pick c x y =>
    refine IsV.kind ?_ _
    show IsV (evPick c x y s)
    unfold evPick
    split
    · rename_i t _; cases t <;> exact IsV.opt _
    · exact IsV.none
  | box z => cases hb
  | boxv sz x => cases hb
  | halloc t z => exact IsV.kind (IsV.mkO _ _) _
  | hboxv t sz x =>
    refine IsV.kind ?_ _
    show IsV (evHboxv t sz x s)
    unfold evHboxv
    repeat' split
    all_goals first | exact IsV.mkO _ _ | exact IsV.none
  | build z ps => exact IsV.kind (by show IsV (evBuild z ps s); unfold evBuild; split; exact IsV.val _; exact IsV.none) _
  | mkisl sz ag z n ps => exact IsV.kind (by show IsV (evMkisl sz ag z n ps s); unfold evMkisl; split; exact IsV.gd _ (IsV.val _); exact IsV.none) _
  | mkmsl t sz z n ps => exact IsV.kind (by show IsV (evMkmsl t sz z n ps s); unfold evMkmsl; split; exact IsV.mkO _ _; exact IsV.none) _
  | load sz ag x => exact IsV.kind (IsV.opt _) _
  | store sz x y =>
    refine IsV.kind ?_ _
    show IsV (evStore sz x y s)
    unfold evStore
    repeat' split
    all_goals first | exact IsV.some _ _ | exact IsV.none
  | nilchk x =>
    intro e s1 he
    have he' : orElse' (evNilchk x s) (evNilM ms x s) = some (e, s1) := he
    have h1 : KindR s [x] (evNilchk x s) := by
      unfold evNilchk
      split
      · rename_i u o ha
        intro e s1 h
        cases h
        exact .inr ⟨u, o, rfl, x, by simp, o, ha⟩
      · exact IsV.kind (IsV.gd _ (IsV.val _)) _
      · exact IsV.kind IsV.none _
    have h2 : IsV (evNilM ms x s) := by
      unfold evNilM
      split
      · split
        · exact IsV.some _ _
        · exact IsV.none
      · exact IsV.none
    cases hr : evNilchk x s with
    | some p =>
      rw [hr] at he'
      exact h1 e s1 (hr.trans he')
    | none =>
      rw [hr] at he'
      exact .inl (h2 e s1 he')
  | bin o x y => exact IsV.kind (by show IsV (evBin o x y s); unfold evBin; split; split; exact IsV.opt _; exact IsV.none; exact IsV.none) _
  | eqx k n x y => exact IsV.kind (by show IsV (evEqx k n x y s); unfold evEqx; split; split; exact IsV.opt _; exact IsV.none; exact IsV.none) _
  | un o x => exact IsV.kind (by show IsV (evUn o x s); unfold evUn; split; exact IsV.opt _; exact IsV.none) _
  | conv c x =>
    refine IsV.kind ?_ _
    show IsV (evConv c x s)
    unfold evConv
    split
    · rename_i y _
      cases c with
      | wrap k => exact IsV.opt _
      | same => exact IsV.opt _
      | s2b e =>
        show IsV (convS2b e s y)
        unfold convS2b
        split
        · exact IsV.mkO _ _
        · exact IsV.none
      | b2s => exact IsV.opt _
    · exact IsV.none
  | mkif t x => exact IsV.kind (by show IsV (evMkif t x s); unfold evMkif; split; exact IsV.val _; exact IsV.none) _
  | mkfn f x y => exact IsV.kind (by show IsV (evMkfn f x y s); unfold evMkfn; split; split; exact IsV.val _; exact IsV.none; exact IsV.none) _
  | mkmap t => exact IsV.kind (IsV.mkO _ _) _
  | mksl t sz z x y => exact IsV.kind (by show IsV (evMksl t sz z x y s); unfold evMksl; split; split; exact IsV.gd _ (IsV.mkO _ _); exact IsV.none; exact IsV.none) _
  | slstr x lo hi => exact IsV.kind (by show IsV (evSlstr x lo hi s); unfold evSlstr; split; split; split; exact IsV.opt _; exact IsV.none; exact IsV.none; exact IsV.none) _
  | slsl sz x lo hi mx =>
    refine IsV.kind ?_ _
    have three : ∀ d (mx' : Option Atom) (f : Nat → Nat → Nat → Option V), IsV (s.three d lo hi mx' f) := by
      intro d mx' f
      unfold St.three
      repeat' split
      all_goals first | exact IsV.opt _ | exact IsV.none
    show IsV (evSlsl sz x lo hi mx s)
    unfold evSlsl
    split
    · exact three _ _ _
    · exact three _ _ _
    · split
      · exact three _ _ _
      · exact IsV.none
    · exact IsV.none
  | fieldA o x =>
    intro e s1 he
    have he' : evFieldA o x s = some (e, s1) := he
    unfold evFieldA at he'
    split at he'
    · rename_i y hy
      refine optE [x] (y.shift o) (fun e he => ?_) e s1 he'
      rcases shift_kind he with h | ⟨u, o1, o2, h1, h2⟩
      · exact .inl h
      · exact .inr ⟨u, o1, h1, x, by simp, o2, by rw [hy, h2]⟩
    · cases he'
  | field o n ag x => exact IsV.kind (IsV.opt _) _
  | idxAsl sz x i =>
    refine IsV.kind ?_ _
    show IsV (evIdxAsl sz x i s)
    unfold evIdxAsl
    split
    · split
      · exact IsV.gd _ (IsV.opt _)
      · exact IsV.gd _ (IsV.val _)
      · exact IsV.none
    · exact IsV.none
  | idxAarr k n x i =>
    intro e s1 he
    have he' : evIdxAarr k n x i s = some (e, s1) := he
    unfold evIdxAarr at he'
    split at he'
    · obtain ⟨_, he'⟩ := gd_some he'
      split at he'
      · rename_i y hy
        refine optE [x, i] _ (fun e he => ?_) e s1 he'
        rcases shift_kind he with h | ⟨u, o1, o2, h1, h2⟩
        · exact .inl h
        · exact .inr ⟨u, o1, h1, x, by simp, o2, by rw [hy, h2]⟩
      · cases he'
    · cases he'
  | idxStr x i => exact IsV.kind (by show IsV (evIdxStr x i s); unfold evIdxStr; split; split; exact IsV.opt _; exact IsV.none; exact IsV.none) _
  | idxArr k n ag x i => exact IsV.kind (by show IsV (evIdxArr k n ag x i s); unfold evIdxArr; split; exact IsV.gd _ (IsV.opt _); exact IsV.none) _
  | lookup b z x k ok => exact IsV.kind (by show IsV (evLookup b z x k ok s); unfold evLookup; split; split; exact IsV.val _; exact IsV.opt _; exact IsV.none; exact IsV.none) _
  | mapset b m k x =>
    refine IsV.kind ?_ _
    show IsV (evMapset b m k x s)
    unfold evMapset
    repeat' split
    all_goals first | exact IsV.none | (unfold St.mapTo; split; exact IsV.some _ _; exact IsV.none)
  | tassert t z ok x =>
    refine IsV.kind ?_ _
    show IsV (evTassert t z ok x s)
    unfold evTassert
    repeat' split
    all_goals first | exact IsV.val _ | exact IsV.none | exact IsV.gd _ (IsV.val _)
  | extract x i => exact IsV.kind (by show IsV (evExtract x i s); unfold evExtract; split; exact IsV.opt _; exact IsV.none) _
  | len kd x =>
    refine IsV.kind ?_ _
    show IsV (evLen kd x s)
    unfold evLen
    split
    all_goals first | exact IsV.gd _ (IsV.val _) | exact IsV.gd _ (IsV.opt _) | exact IsV.none
  | append t sz x y =>
    refine IsV.kind ?_ _
    show IsV (evAppend t sz x y s)
    unfold evAppend
    split
    · split
      · split
        · unfold appendTo
          split
          · split
            all_goals first | exact IsV.val _ | exact IsV.none
          · split
            · exact IsV.gd _ (IsV.mkO _ _)
            · unfold St.grow
              split
              · exact IsV.gd _ (IsV.some _ _)
              · exact IsV.none
            · exact IsV.none
        · exact IsV.none
      · exact IsV.none
    · exact IsV.none
  | copy sz x y =>
    refine IsV.kind ?_ _
    show IsV (evCopy sz x y s)
    unfold evCopy
    split
    · split
      · split
        · unfold St.copyTo
          split
          · split
            · exact IsV.some _ _
            · exact IsV.none
          · exact IsV.none
        · exact IsV.val _
        · exact IsV.none
      · exact IsV.none
    · exact IsV.none
  | mm b xs => exact IsV.kind (IsV.opt _) _
  | delete b m k =>
    refine IsV.kind ?_ _
    show IsV (evDelete b m k s)
    unfold evDelete
    repeat' split
    all_goals first | exact IsV.none | (unfold St.mapTo; split; exact IsV.some _ _; exact IsV.none)
  | call f xs => exact IsV.kind (IsV.evCall _) _
  | invoke r n xs => exact IsV.kind (IsV.evCall _) _
  | defer f xs =>
    refine IsV.kind ?_ _
    show IsV (evDefer f xs s)
    unfold evDefer
    split
    · split
      · exact IsV.some _ _
      · exact IsV.none
    · exact IsV.none
  | recover =>
    refine IsV.kind ?_ _
    show IsV (evRecover s)
    unfold evRecover
    split
    · exact IsV.val _
    · exact IsV.none
  | panic x => exact IsV.kind IsV.none _
  | stuck => exact IsV.kind IsV.none _

/-- What a block's making gives. -/
theorem boxop_ok {op : AOp} (hb : isBoxOp op = true) {e : E} {s1 : St} (h : evStep call ms op s = some (e, s1)) : s1 = s ∧ ∃ cs, e = .box cs := by
  cases op with
  | box z => cases h; exact ⟨rfl, z, rfl⟩
  | boxv sz x =>
    have h' : evBoxv sz x s = some (e, s1) := h
    unfold evBoxv at h'
    split at h'
    · split at h'
      · cases h'; exact ⟨rfl, _, rfl⟩
      · cases h'
    · cases h'
  | _ => cases hb

/-- What reads memory gives a value and leaves the state. -/
def Rd (s : St) (r : OpR) : Prop := ∀ e s1, r = some (e, s1) → s1 = s ∧ ∃ x, e = .v x
theorem Rd.none : Rd s none := fun _ _ h => by cases h
theorem Rd.val (x : V) : Rd s (s.val x) := fun e s1 h => by cases h; exact ⟨rfl, x, rfl⟩
theorem Rd.opt (r : Option V) : Rd s (s.opt r) := by
  cases r with
  | none => exact Rd.none
  | some x => exact Rd.val x
theorem Rd.gd (b : Bool) {r : OpR} (h : Rd s r) : Rd s (Air.gd b r) := by
  cases b with
  | true => exact h
  | false => exact Rd.none
theorem reads_ok {op : AOp} (hr : op.reads = true) : Rd s (evStep call ms op s) := by
  cases op with
  | load sz ag x => exact Rd.opt _
  | lookup b z x k ok => show Rd s (evLookup b z x k ok s); unfold evLookup; split; split; exact Rd.val _; exact Rd.opt _; exact Rd.none; exact Rd.none
  | len kd x =>
    show Rd s (evLen kd x s)
    unfold evLen
    split
    all_goals first | exact Rd.gd _ (Rd.val _) | exact Rd.gd _ (Rd.opt _) | exact Rd.none
  | slsl sz x lo hi mx =>
    have three : ∀ d (mx' : Option Atom) (f : Nat → Nat → Nat → Option V), Rd s (s.three d lo hi mx' f) := by
      intro d mx' f
      unfold St.three
      repeat' split
      all_goals first | exact Rd.opt _ | exact Rd.none
    show Rd s (evSlsl sz x lo hi mx s)
    unfold evSlsl
    split
    · exact three _ _ _
    · exact three _ _ _
    · split
      · exact three _ _ _
      · exact Rd.none
    · exact Rd.none
  | conv c x =>
    show Rd s (evConv c x s)
    unfold evConv
    split
    · rename_i y _
      cases c with
      | b2s => exact Rd.opt _
      | _ => cases hr
    · exact Rd.none
  | _ => cases hr
end
end Go.Air

/- AIR: one operation of a region that draws, its guard and its temporary too, in two states. -/
namespace Go.Air

def upd (d : Option Nat) (e : E) (env : List (Nat × E)) : List (Nat × E) :=
  match d with
  | some i => (i, e) :: env
  | none => env

/-- The same state but for the entries. -/
structure Mem (s s' : St) : Prop where
  hp : s'.hp = s.hp
  nx : s'.nx = s.nx
  dfs : s'.dfs = s.dfs
  rc : s'.rc = s.rc
theorem Mem.refl (s : St) : Mem s s := ⟨rfl, rfl, rfl, rfl⟩
theorem Mem.symm {s s' : St} (h : Mem s s') : Mem s' s := ⟨h.hp.symm, h.nx.symm, h.dfs.symm, h.rc.symm⟩
theorem Mem.trans {s s' t : St} (h : Mem s s') (k : Mem s' t) : Mem s t := ⟨k.hp.trans h.hp, k.nx.trans h.nx, k.dfs.trans h.dfs, k.rc.trans h.rc⟩
theorem St.eq_of {s s' : St} (h : Mem s s') (he : s'.env = s.env) : s' = s := by
  cases s; cases s'
  obtain ⟨h1, h2, h3, h4⟩ := h
  simp only at h1 h2 h3 h4 he
  subst h1 h2 h3 h4 he
  rfl

section
variable {s s' : St} {call : Caller} {ms : Meths}

theorem frz1_mem (m : Mem s s') {sz : Nat} {agg : Bool} {x x' : V} {t : St} (h : s.frz1 sz agg x = some (x', t)) :
    ∃ t', s'.frz1 sz agg x = some (x', t') ∧ Mem t t' ∧ t.env = s.env ∧ t'.env = s'.env := by
  unfold St.frz1 at h ⊢
  cases x with
  | nsl => cases h; exact ⟨_, rfl, m, rfl, rfl⟩
  | isl c z es => cases h; exact ⟨_, rfl, m, rfl, rfl⟩
  | msl id off n =>
    dsimp only at h ⊢
    rw [m.hp]
    split at h
    · rename_i cs hcs
      obtain ⟨hb, h⟩ := gd_some h
      cases h
      rw [hb]
      exact ⟨_, rfl, ⟨rfl, m.nx, m.dfs, m.rc⟩, rfl, rfl⟩
    · cases h
  | _ => cases h

theorem frzPath_mem : ∀ (fs : List (Option Nat × Nat × Bool)) {s s' : St} (_ : Mem s s') {x x' : V} {t : St}, frzPath fs x s = some (x', t) →
    ∃ t', frzPath fs x s' = some (x', t') ∧ Mem t t' ∧ t.env = s.env ∧ t'.env = s'.env
  | [], s, s', m, x, x', t, h => by cases h; exact ⟨_, rfl, m, rfl, rfl⟩
  | (none, sz, agg) :: r, s, s', m, x, x', t, h => by
    unfold frzPath at h ⊢
    cases h1 : s.frz1 sz agg x with
    | none => rw [h1] at h; cases h
    | some p =>
      obtain ⟨x1, s1⟩ := p
      rw [h1] at h
      obtain ⟨s1', h1', m1, e1, e1'⟩ := frz1_mem m h1
      obtain ⟨t', h2, m2, e2, e2'⟩ := frzPath_mem r m1 h
      rw [h1']
      exact ⟨t', h2, m2, e2.trans e1, e2'.trans e1'⟩
  | (some i, sz, agg) :: r, s, s', m, x, x', t, h => by
    unfold frzPath at h ⊢
    cases x with
    | agg cs =>
      dsimp only at h ⊢
      cases hc : nthR i cs with
      | none => rw [hc] at h; cases h
      | some c =>
        rw [hc] at h
        dsimp only at h ⊢
        cases h1 : s.frz1 sz agg c with
        | none => rw [h1] at h; cases h
        | some p =>
          obtain ⟨x1, s1⟩ := p
          rw [h1] at h
          obtain ⟨s1', h1', m1, e1, e1'⟩ := frz1_mem m h1
          obtain ⟨t', h2, m2, e2, e2'⟩ := frzPath_mem r m1 h
          rw [h1']
          exact ⟨t', h2, m2, e2.trans e1, e2'.trans e1'⟩
    | _ => cases h

theorem frzE_mem (fs : List (Option Nat × Nat × Bool)) (m : Mem s s') {e e' : E} {t : St} (h : frzE fs e s = some (e', t)) :
    ∃ t', frzE fs e s' = some (e', t') ∧ Mem t t' ∧ t.env = s.env ∧ t'.env = s'.env ∧ (fs = [] → e' = e) ∧ (fs ≠ [] → ∃ x, e' = .v x) := by
  unfold frzE at h ⊢
  cases fs with
  | nil => cases h; exact ⟨_, rfl, m, rfl, rfl, fun _ => rfl, fun h => absurd rfl h⟩
  | cons p r =>
    dsimp only at h ⊢
    cases e with
    | v x =>
      dsimp only at h ⊢
      cases h1 : frzPath (p :: r) x s with
      | none => rw [h1] at h; cases h
      | some q =>
        obtain ⟨x1, s1⟩ := q
        rw [h1] at h
        cases h
        obtain ⟨t', h2, m2, e2, e2'⟩ := frzPath_mem (p :: r) m h1
        rw [h2]
        exact ⟨t', rfl, m2, e2, e2', (fun h => by cases h), fun _ => ⟨_, rfl⟩⟩
    | box _ => cases h
    | lp _ _ => cases h

theorem frzS_eq (d : Option Nat) (fs : List (Option Nat × Nat × Bool)) (r : OpR) : frzS d fs r = match r with | some (e, s) => putO d (frzE fs e s) | none => none := by
  cases r with
  | none => rfl
  | some p =>
    obtain ⟨e, s⟩ := p
    cases fs <;> rfl

theorem putR_env {d : Option Nat} {e : E} {t t1 : St} (h : putR d e t = some t1) : t1.env = upd d e t.env ∧ Mem t t1 ∧ ∀ cs, e = .box cs → ∃ i, d = some i ∧ noLp i t.env = true := by
  cases e with
  | v x =>
    have h' : some (t.put d (.v x)) = some t1 := h
    cases h'
    cases d <;> exact ⟨rfl, ⟨rfl, rfl, rfl, rfl⟩, fun cs h => by cases h⟩
  | lp u o =>
    have h' : some (t.put d (.lp u o)) = some t1 := h
    cases h'
    cases d <;> exact ⟨rfl, ⟨rfl, rfl, rfl, rfl⟩, fun cs h => by cases h⟩
  | box cs =>
    have h' : putB d cs t = some t1 := h
    unfold putB at h'
    cases d with
    | none => cases h'
    | some i =>
      dsimp only at h'
      obtain ⟨hb, h'⟩ := gd_some h'
      cases h'
      exact ⟨rfl, ⟨rfl, rfl, rfl, rfl⟩, fun _ _ => ⟨i, rfl, hb⟩⟩
theorem putR_mk {d : Option Nat} {e : E} {t : St} (h : ∀ cs, e = .box cs → ∃ i, d = some i ∧ noLp i t.env = true) : ∃ t1, putR d e t = some t1 := by
  cases e with
  | v x => exact ⟨_, rfl⟩
  | lp u o => exact ⟨_, rfl⟩
  | box cs =>
    obtain ⟨i, rfl, hb⟩ := h cs rfl
    refine ⟨⟨(i, .box cs) :: t.env, t.hp, t.nx, t.dfs, t.rc⟩, ?_⟩
    show gd (noLp i t.env) _ = _
    rw [hb]
    rfl

/-- What a store within the frame's own blocks has put ahead of the entries. -/
def Ue (s : St) (o : AOper) (ue : List (Nat × E)) : Prop :=
  ue = [] ∨ ∃ u cs ds, ue = [(u, .box cs)] ∧ lget s.env u = some (.box ds) ∧ ∃ x ∈ o.op.atoms, ∃ off, s.ad x = some (.lp u off)
/-- What an operation's temporary gets. -/
def Re (s : St) (o : AOper) (e : E) : Prop :=
  (∃ x, e = .v x) ∨ (∃ cs, e = .box cs ∧ isBoxOp o.op = true ∧ o.dst.isSome = true) ∨ ∃ u off, e = .lp u off ∧ ∃ x ∈ o.op.atoms, ∃ o', s.ad x = some (.lp u o')

structure Same2 (o : AOper) (s s' : St) : Prop where
  same : Same o.op.atoms s s'
  grd : ∀ g w, o.grd = some (g, w) → isB w (lget s'.env g) = isB w (lget s.env g)
  box : isBoxOp o.op = true → ∀ d, o.dst = some d → noLp d s.env = true → noLp d s'.env = true

theorem run_same {o : AOper} {s1 : St} (m : Same2 o s s') (h : frzS o.dst o.frz (evStep call ms o.op s) = some s1) :
    ∃ s1', frzS o.dst o.frz (evStep call ms o.op s') = some s1' ∧ Mem s1 s1' ∧ ∃ ue e, s1.env = upd o.dst e (ue ++ s.env) ∧ s1'.env = upd o.dst e (ue ++ s'.env) ∧ Ue s o ue ∧ Re s o e := by
  rw [frzS_eq] at h ⊢
  cases hr : evStep call ms o.op s with
  | none => rw [hr] at h; cases h
  | some p =>
    obtain ⟨e, t⟩ := p
    rw [hr] at h
    dsimp only at h
    obtain ⟨t', hr', h1, h2, h3, h4, h5, henv⟩ := same_ok (call := call) (ms := ms) m.same e t hr
    have mt : Mem t t' := ⟨h1, h2, h3, h4⟩
    rw [hr']
    dsimp only
    cases hf : frzE o.frz e t with
    | none => rw [hf] at h; cases h
    | some q =>
      obtain ⟨e2, t2⟩ := q
      rw [hf] at h
      obtain ⟨t2', hf', m2, e1, e1', hnil, hcons⟩ := frzE_mem o.frz mt hf
      rw [hf']
      have hput : putR o.dst e2 t2 = some s1 := h
      obtain ⟨p1, p2, p3⟩ := putR_env hput
      obtain ⟨ue, hue1, hue2, hue3⟩ : ∃ ue, t.env = ue ++ s.env ∧ t'.env = ue ++ s'.env ∧ Ue s o ue := by
        rcases henv with ⟨a, b⟩ | ⟨u, cs, a, b, hx, ds, hds⟩
        · exact ⟨[], a, b, .inl rfl⟩
        · exact ⟨[(u, .box cs)], a, b, .inr ⟨u, cs, ds, rfl, hds, hx⟩⟩
      have hre : Re s o e2 := by
        cases hb : isBoxOp o.op with
        | true =>
          obtain ⟨_, cs, hcs⟩ := boxop_ok (call := call) (ms := ms) hb hr
          by_cases hn : o.frz = []
          · have := hnil hn
            refine .inr (.inl ⟨cs, this.trans hcs, hb, ?_⟩)
            obtain ⟨i, hi, _⟩ := p3 cs (this.trans hcs)
            rw [hi]; rfl
          · exact .inl (hcons hn)
        | false =>
          by_cases hn : o.frz = []
          · rw [hnil hn]
            rcases kind_ok (call := call) (ms := ms) hb e t hr with hk | hk
            · exact .inl hk
            · exact .inr (.inr hk)
          · exact .inl (hcons hn)
      obtain ⟨s1', hs1'⟩ : ∃ s1', putR o.dst e2 t2' = some s1' := by
        refine putR_mk fun cs hcs => ?_
        obtain ⟨i, hi, hl⟩ := p3 cs hcs
        refine ⟨i, hi, ?_⟩
        rcases hre with ⟨x, hx⟩ | ⟨ds, hds, hb, _⟩ | ⟨u, off, hlp, _⟩
        · rw [hx] at hcs; cases hcs
        · obtain ⟨ht, _⟩ := boxop_ok (call := call) (ms := ms) hb hr
          obtain ⟨ht', _⟩ := boxop_ok (call := call) (ms := ms) hb hr'
          rw [e1, ht] at hl
          rw [e1', ht']
          exact m.box hb i hi hl
        · rw [hlp] at hcs; cases hcs
      obtain ⟨q1, q2, _⟩ := putR_env hs1'
      refine ⟨s1', hs1', (p2.symm.trans m2).trans q2, ue, e2, ?_, ?_, hue3, hre⟩
      · rw [p1, e1, hue1]
      · rw [q1, e1', hue2]

/-- An operation in two states that it cannot tell apart. -/
theorem one_same {o : AOper} {s1 : St} (m : Same2 o s s') (h : evOne call ms o s = some s1) :
    ∃ s1', evOne call ms o s' = some s1' ∧ Mem s1 s1' ∧ ∃ ue e, s1.env = upd o.dst e (ue ++ s.env) ∧ s1'.env = upd o.dst e (ue ++ s'.env) ∧ Ue s o ue ∧ Re s o e := by
  cases hg : o.grd with
  | none =>
    have h' : frzS o.dst o.frz (evStep call ms o.op s) = some s1 := by unfold evOne at h; rw [hg] at h; exact h
    obtain ⟨s1', h1, h2⟩ := run_same m h'
    exact ⟨s1', by unfold evOne; rw [hg]; exact h1, h2⟩
  | some p =>
    obtain ⟨g, w⟩ := p
    have h' : ifW (isB w (lget s.env g)) (frzS o.dst o.frz (evStep call ms o.op s)) (putR o.dst (.v (.tup [])) s) = some s1 := by unfold evOne at h; rw [hg] at h; exact h
    have key : ∀ r, ifW (isB w (lget s'.env g)) (frzS o.dst o.frz (evStep call ms o.op s')) (putR o.dst (.v (.tup [])) s') = r → evOne call ms o s' = r := fun r hr => by unfold evOne; rw [hg]; exact hr
    rw [m.grd g w hg] at key
    cases hb : isB w (lget s.env g) with
    | none => rw [hb] at h'; cases h'
    | some b =>
      rw [hb] at h' key
      cases b with
      | true =>
        obtain ⟨s1', h1, h2⟩ := run_same m (show frzS o.dst o.frz (evStep call ms o.op s) = some s1 from h')
        exact ⟨s1', key _ h1, h2⟩
      | false =>
        have hp : putR o.dst (.v (.tup [])) s = some s1 := h'
        obtain ⟨p1, p2, _⟩ := putR_env hp
        obtain ⟨s1', hs1'⟩ := putR_mk (d := o.dst) (e := .v (.tup [])) (t := s') fun cs hc => by cases hc
        obtain ⟨q1, q2, _⟩ := putR_env hs1'
        refine ⟨s1', key _ hs1', (p2.symm.trans ⟨m.same.hp, m.same.nx, m.same.dfs, m.same.rc⟩).trans q2, [], _, p1, q1, .inl rfl, .inl ⟨_, rfl⟩⟩

theorem Same2.refl (o : AOper) (s : St) : Same2 o s s := ⟨⟨fun _ _ => rfl, rfl, rfl, rfl, rfl, fun _ _ _ _ _ => rfl⟩, fun _ _ _ => rfl, fun _ _ _ h => h⟩

theorem eff_false {o : AOper} (h : o.eff = false) : (o.op.quiet || (o.op.reads || isBoxOp o.op)) = true ∧ o.frz = [] := by
  unfold AOper.eff at h
  cases h1 : (o.op.quiet || (o.op.reads || isBoxOp o.op)) <;> cases h2 : o.frz <;> simp [h1, h2] at h ⊢

/-- What is no effect leaves memory; what makes no block gives none. -/
theorem one_noeff {o : AOper} {s1 : St} (hq : o.eff = false) (h : evOne call ms o s = some s1) : Mem s s1 ∧ ∃ e, s1.env = upd o.dst e s.env ∧ (isBoxOp o.op = false → ∀ cs, e ≠ .box cs) := by
  obtain ⟨hq1, hfrz⟩ := eff_false hq
  have key : frzS o.dst o.frz (evStep call ms o.op s) = some s1 → Mem s s1 ∧ ∃ e, s1.env = upd o.dst e s.env ∧ (isBoxOp o.op = false → ∀ cs, e ≠ .box cs) := by
    intro h
    rw [frzS_eq, hfrz] at h
    cases hr : evStep call ms o.op s with
    | none => rw [hr] at h; cases h
    | some p =>
      obtain ⟨e, t⟩ := p
      rw [hr] at h
      have hput : putR o.dst e t = some s1 := h
      obtain ⟨p1, p2, _⟩ := putR_env hput
      have ht : t = s ∧ (isBoxOp o.op = false → ∀ cs, e ≠ .box cs) := by
        cases hqq : o.op.quiet with
        | true => exact ⟨(quiet_ok (s' := s) (call := call) (ms := ms) hqq (fun _ _ => rfl) e t hr).1, fun _ => quiet_notbox hqq e t hr⟩
        | false =>
          cases hb : isBoxOp o.op with
          | true => exact ⟨(boxop_ok (call := call) (ms := ms) hb hr).1, fun h => by cases h⟩
          | false =>
            rw [hqq, hb] at hq1
            obtain ⟨h1, x, hx⟩ := reads_ok (call := call) (ms := ms) (by simpa using hq1) e t hr
            exact ⟨h1, fun _ cs hc => by rw [hx] at hc; cases hc⟩
      obtain ⟨rfl, hnb⟩ := ht
      exact ⟨p2, e, p1, hnb⟩
  cases hg : o.grd with
  | none => exact key (by unfold evOne at h; rw [hg] at h; exact h)
  | some p =>
    obtain ⟨g, w⟩ := p
    have h' : ifW (isB w (lget s.env g)) (frzS o.dst o.frz (evStep call ms o.op s)) (putR o.dst (.v (.tup [])) s) = some s1 := by unfold evOne at h; rw [hg] at h; exact h
    cases hb : isB w (lget s.env g) with
    | none => rw [hb] at h'; cases h'
    | some b =>
      rw [hb] at h'
      cases b with
      | true => exact key h'
      | false =>
        obtain ⟨p1, p2, _⟩ := putR_env (show putR o.dst (.v (.tup [])) s = some s1 from h')
        exact ⟨p2, _, p1, fun _ cs hc => by cases hc⟩

theorem box_qt {op : AOp} (hb : isBoxOp op = true) (had : ∀ x ∈ op.atoms, s'.ad x = s.ad x) : Qt s s' (evStep call ms op s) (evStep call ms op s') := by
  cases op with
  | box z => exact Qt.some _
  | boxv sz x =>
    show Qt s s' (evBoxv sz x s) (evBoxv sz x s')
    unfold evBoxv
    rw [v_ad s', v_ad s, had x (by simp [AOp.atoms])]
    split
    · split
      · exact Qt.some _
      · exact Qt.none
    · exact Qt.none
  | _ => cases hb

/-- An operation that leaves memory, in two states whose operands agree. -/
theorem one_calm {o : AOper} {s1 : St} (hq : o.op.quiet = true ∨ isBoxOp o.op = true) (hf : o.frz = []) (had : ∀ x ∈ o.op.atoms, s'.ad x = s.ad x) (hgd : ∀ g w, o.grd = some (g, w) → isB w (lget s'.env g) = isB w (lget s.env g))
    (hnl : isBoxOp o.op = true → ∀ d, o.dst = some d → noLp d s'.env = true)
    (h : evOne call ms o s = some s1) : ∃ s1' e, evOne call ms o s' = some s1' ∧ Mem s' s1' ∧ s1.env = upd o.dst e s.env ∧ s1'.env = upd o.dst e s'.env ∧ (isBoxOp o.op = false → ∀ cs, e ≠ .box cs) ∧ Re s o e := by
  have key : frzS o.dst o.frz (evStep call ms o.op s) = some s1 →
      ∃ s1' e, frzS o.dst o.frz (evStep call ms o.op s') = some s1' ∧ Mem s' s1' ∧ s1.env = upd o.dst e s.env ∧ s1'.env = upd o.dst e s'.env ∧ (isBoxOp o.op = false → ∀ cs, e ≠ .box cs) ∧ Re s o e := by
    intro hk
    rw [frzS_eq, hf] at hk
    rw [frzS_eq, hf]
    cases hr : evStep call ms o.op s with
    | none => rw [hr] at hk; cases hk
    | some p =>
      obtain ⟨e, t⟩ := p
      rw [hr] at hk
      have hput : putR o.dst e t = some s1 := hk
      have hqt : Qt s s' (evStep call ms o.op s) (evStep call ms o.op s') := by
        rcases hq with hq | hq
        · exact quiet_ok hq had
        · exact box_qt hq had
      obtain ⟨ht, hr'⟩ := hqt e t hr
      subst ht
      obtain ⟨p1, p2, p3⟩ := putR_env hput
      have hnb : isBoxOp o.op = false → ∀ cs, e ≠ .box cs := by
        intro hb
        rcases hq with hq | hq
        · exact quiet_notbox hq e t hr
        · rw [hb] at hq; cases hq
      obtain ⟨s1', hs1'⟩ := putR_mk (d := o.dst) (e := e) (t := s') fun cs hc => by
        obtain ⟨i, hi, _⟩ := p3 cs hc
        cases hb : isBoxOp o.op with
        | false => exact absurd hc (hnb hb cs)
        | true => exact ⟨i, hi, hnl hb i hi⟩
      obtain ⟨q1, q2, _⟩ := putR_env hs1'
      rw [hr']
      have hre : Re t o e := by
        cases hb : isBoxOp o.op with
        | true =>
          obtain ⟨_, cs, hcs⟩ := boxop_ok (call := call) (ms := ms) hb hr
          obtain ⟨i, hi, _⟩ := p3 cs hcs
          exact .inr (.inl ⟨cs, hcs, hb, by rw [hi]; rfl⟩)
        | false =>
          rcases kind_ok (call := call) (ms := ms) hb e t hr with hk | hk
          · exact .inl hk
          · exact .inr (.inr hk)
      exact ⟨s1', e, hs1', q2, p1, q1, hnb, hre⟩
  cases hg : o.grd with
  | none =>
    obtain ⟨s1', e, h1, h2⟩ := key (by unfold evOne at h; rw [hg] at h; exact h)
    exact ⟨s1', e, by unfold evOne; rw [hg]; exact h1, h2⟩
  | some p =>
    obtain ⟨g, w⟩ := p
    have h' : ifW (isB w (lget s.env g)) (frzS o.dst o.frz (evStep call ms o.op s)) (putR o.dst (.v (.tup [])) s) = some s1 := by unfold evOne at h; rw [hg] at h; exact h
    have key2 : ∀ r, ifW (isB w (lget s'.env g)) (frzS o.dst o.frz (evStep call ms o.op s')) (putR o.dst (.v (.tup [])) s') = r → evOne call ms o s' = r := fun r hr => by unfold evOne; rw [hg]; exact hr
    rw [hgd g w hg] at key2
    cases hb : isB w (lget s.env g) with
    | none => rw [hb] at h'; cases h'
    | some b =>
      rw [hb] at h' key2
      cases b with
      | true =>
        obtain ⟨s1', e, h1, h2⟩ := key h'
        exact ⟨s1', e, key2 _ h1, h2⟩
      | false =>
        have hp : putR o.dst (.v (.tup [])) s = some s1 := h'
        obtain ⟨p1, p2, _⟩ := putR_env hp
        obtain ⟨s1', hs1'⟩ := putR_mk (d := o.dst) (e := .v (.tup [])) (t := s') fun cs hc => by cases hc
        obtain ⟨q1, q2, _⟩ := putR_env hs1'
        exact ⟨s1', _, key2 _ hs1', q2, p1, q1, (fun _ cs hc => by cases hc), .inl ⟨_, rfl⟩⟩
end
end Go.Air

/- AIR: a region that draws: whatever the order, the same comes of it. -/
namespace Go.Air
variable [GL]

/-- The text's state behind the first so many effects. -/
def mAt (es : List Nat) : Nat → Nat
  | 0 => 0
  | q + 1 => (es[q]?).getD 0 + 1

/-- A block of this temporary is made at this place. -/
def BoxBy (aops : List AOper) (t j : Nat) : Prop := ∃ o, aops[j]? = some o ∧ isBoxOp o.op = true ∧ o.dst = some t

structure Rg (call : Caller) (ms : Meths) (aops : List AOper) (anc : Nat → List Nat) (es : List Nat) (S : Nat → St) (mk : Nat → Bool) (sw : Option (Nat × Nat)) : Prop where
  step : ∀ (j : Nat) (o : AOper), aops[j]? = some o → mk j = false → evOne call ms o (S j) = some (S (j + 1))
  skip : ∀ (j : Nat) (o : AOper), aops[j]? = some o → mk j = true → S (j + 1) = S j
  start : ∀ (j : Nat) (o : AOper) (d : Nat), aops[j]? = some o → o.dst = some d → (isBoxOp o.op = true → noLp d (S 0).env = true) ∧ (isBoxOp o.op = false → boxOf (lget (S 0).env d) = none)
  esm : ∀ e, e ∈ es ↔ ∃ o, aops[e]? = some o ∧ o.eff = true ∧ mk e = false
  ess : ∀ (p q e f : Nat), es[p]? = some e → es[q]? = some f → (p < q ↔ e < f)
  chain : ∀ (p q e f : Nat), p < q → es[p]? = some e → es[q]? = some f → e ∈ anc f ∨ sw = some (e, f)
  dst1 : ∀ (i j : Nat) (oi oj : AOper) (d : Nat), aops[i]? = some oi → aops[j]? = some oj → oi.dst = some d → oj.dst = some d → i = j
  uses : ∀ (i j : Nat) (oi oj : AOper) (d : Nat), aops[i]? = some oi → aops[j]? = some oj → oj.dst = some d → d ∈ oi.tmps → j ∈ anc i ∨ (isBoxOp oj.op = false ∧ (i = j ∨ i ∈ anc j) ∧ oi.op.reads = false)
  back : ∀ i k, k ∈ anc i → k < i
  mkup : ∀ i k, k ∈ anc i → mk k = true → mk i = true
  rbox : ∀ (j : Nat) (o : AOper) (lo hi : Nat), aops[j]? = some o → mk j = false → o.op.reads = true → o.frz = [] → lo = (es.filter fun e => (anc j).contains e).length → hi = (es.filter fun e => !(anc e).contains j).length → lo < hi →
    ∀ u b, BoxBy aops u b → b < j → b + 1 ≤ mAt es lo
  reads : ∀ (j : Nat) (o : AOper) (lo hi : Nat), aops[j]? = some o → mk j = false → o.op.reads = true → o.frz = [] → lo = (es.filter fun e => (anc j).contains e).length → hi = (es.filter fun e => !(anc e).contains j).length → lo < hi →
    ∀ k, lo ≤ k → k ≤ hi → ∃ d, o.dst = some d ∧ okOne call ms o d (S j) (lget (S (j + 1)).env d) (some (S (mAt es k))) = true

theorem lget_upd_ne {d : Option Nat} {e : E} {env : List (Nat × E)} {t : Nat} (h : d ≠ some t) : lget (upd d e env) t = lget env t := by
  cases d with
  | none => rfl
  | some i => exact lget_cons_ne env e fun hi => h (by rw [hi])
theorem lget_upd_same {e : E} {env : List (Nat × E)} {t : Nat} : lget (upd (some t) e env) t = some e := lget_cons_same _ _ _

theorem lget_ue {s : St} {o : AOper} {ue : List (Nat × E)} (h : Ue s o ue) {env : List (Nat × E)} (hb : ∀ u off x, x ∈ o.op.atoms → s.ad x = some (.lp u off) → boxOf (lget env u) = boxOf (lget s.env u)) (t : Nat) : sh (lget (ue ++ env) t) = sh (lget env t) := by
  rcases h with rfl | ⟨u, cs, ds, rfl, hu, x, hx, off, hax⟩
  · rfl
  · show sh (lget ((u, .box cs) :: env) t) = _
    by_cases ht : u = t
    · subst ht
      rw [lget_cons_same]
      have := hb u off x hx hax
      rw [hu] at this
      rw [sh_of_box this]
      rfl
    · rw [lget_cons_ne _ _ ht]
theorem noLp_cons {d i : Nat} {e : E} {env : List (Nat × E)} : noLp d ((i, e) :: env) = true ↔ (∀ off, e ≠ .lp d off) ∧ noLp d env = true := by
  have h : noLp d ((i, e) :: env) = E.rec (motive := fun _ => Bool) (fun _ => noLp d env) (fun _ => noLp d env) (fun t _ => boolCase (Nat.beq t d) false (noLp d env)) e := rfl
  rw [h]
  cases e with
  | v x => simp
  | box cs => simp
  | lp u off =>
    show boolCase (Nat.beq u d) false (noLp d env) = true ↔ _
    rw [boolCase_eq]
    by_cases hu : u = d
    · subst hu
      simp
    · have : Nat.beq u d = false := by cases hb : Nat.beq u d with
        | false => rfl
        | true => exact absurd (Nat.eq_of_beq_eq_true hb) hu
      simp [this, hu]

theorem filter_le {es : List Nat} {p : Nat → Bool} {k : Nat} (h : ∀ q e, es[q]? = some e → p e = true → q < k) : (es.filter p).length ≤ k := by
  have h1 : es.filter p = (es.take k).filter p := by
    conv => lhs; rw [← List.take_append_drop k es, List.filter_append]
    have : (es.drop k).filter p = [] := by
      rw [List.filter_eq_nil_iff]
      intro a ha hp
      obtain ⟨q, hq⟩ := List.getElem?_of_mem ha
      rw [List.getElem?_drop] at hq
      have := h _ a hq hp
      omega
    rw [this, List.append_nil]
  rw [h1]
  exact Nat.le_trans (List.length_filter_le _ _) (by simp; omega)
theorem le_filter {es : List Nat} {p : Nat → Bool} {k : Nat} (hk : k ≤ es.length) (h : ∀ q e, es[q]? = some e → q < k → p e = true) : k ≤ (es.filter p).length := by
  have h1 : (es.take k).filter p = es.take k := by
    rw [List.filter_eq_self]
    intro a ha
    obtain ⟨q, hq⟩ := List.getElem?_of_mem ha
    rw [List.getElem?_take] at hq
    split at hq
    · rename_i hlt; exact h q a hq hlt
    · cases hq
  have h2 : (es.filter p).length = ((es.take k).filter p).length + ((es.drop k).filter p).length := by
    conv => lhs; rw [← List.take_append_drop k es, List.filter_append, List.length_append]
  rw [h2, h1, List.length_take]
  omega

section
variable {call : Caller} {ms : Meths} {aops : List AOper} {anc : Nat → List Nat} {es : List Nat} {S : Nat → St}

variable {mk : Nat → Bool} {sw : Option (Nat × Nat)}
theorem mem_tmps_atom {o : AOper} {x : Nat} (h : Atom.t x ∈ o.op.atoms) : x ∈ o.tmps := by
  unfold AOper.tmps
  rw [List.mem_append, List.mem_flatMap]
  exact .inr ⟨_, h, by simp [Atom.tmps]⟩
theorem mem_tmps_grd {o : AOper} {g : Nat} {w : Bool} (h : o.grd = some (g, w)) : g ∈ o.tmps := by
  unfold AOper.tmps
  rw [h]
  simp

namespace Rg
variable (r : Rg call ms aops anc es S mk sw)
include r

theorem shape {j : Nat} {o : AOper} (ho : aops[j]? = some o) (hm : mk j = false) : ∃ ue e, (S (j + 1)).env = upd o.dst e (ue ++ (S j).env) ∧ Ue (S j) o ue ∧ Re (S j) o e := by
  obtain ⟨s1', h1, _, ue, e, h2, _, h3, h4⟩ := one_same (Same2.refl o (S j)) (r.step j o ho hm)
  exact ⟨ue, e, h2, h3, h4⟩

theorem ent1 {j : Nat} {o : AOper} (ho : aops[j]? = some o) {t : Nat} (ht : o.dst ≠ some t) : sh (lget (S (j + 1)).env t) = sh (lget (S j).env t) := by
  cases hm : mk j with
  | true => rw [r.skip j o ho hm]
  | false =>
    obtain ⟨ue, e, h1, h2, _⟩ := r.shape ho hm
    rw [h1, lget_upd_ne ht]
    exact lget_ue h2 (fun _ _ _ _ _ => rfl) t

theorem entN {t : Nat} : ∀ (i j : Nat), i ≤ j → j ≤ aops.length → (∀ p o, i ≤ p → p < j → aops[p]? = some o → o.dst ≠ some t) → sh (lget (S j).env t) = sh (lget (S i).env t)
  | i, 0, h, _, _ => by rw [Nat.le_zero.1 h]
  | i, j + 1, h, hj, hno => by
    by_cases he : i = j + 1
    · rw [he]
    · obtain ⟨o, ho⟩ : ∃ o, aops[j]? = some o := ⟨_, List.getElem?_eq_getElem (by omega)⟩
      rw [r.ent1 ho (hno j o (by omega) (by omega) ho)]
      exact entN i j (by omega) (by omega) fun p o h1 h2 h3 => hno p o h1 (by omega) h3

/-- At its own start a temporary is what it was at the region's start. -/
theorem ent0 {j : Nat} {o : AOper} {t : Nat} (ho : aops[j]? = some o) (ht : o.dst = some t) {p : Nat} (hp : p ≤ j) : sh (lget (S p).env t) = sh (lget (S 0).env t) := by
  have hlt := (List.getElem?_eq_some_iff.1 ho).1
  refine r.entN 0 p (Nat.zero_le _) (by omega) fun q oq _ h2 h3 h4 => ?_
  have := r.dst1 q j oq o t h3 ho h4 ht
  omega
/-- Behind its making it is what it is at the end. -/
theorem ent2 {j : Nat} {o : AOper} {t : Nat} (ho : aops[j]? = some o) (ht : o.dst = some t) {p : Nat} (hp : j < p) (hpn : p ≤ aops.length) : sh (lget (S p).env t) = sh (lget (S (j + 1)).env t) := by
  refine r.entN (j + 1) p (by omega) hpn fun q oq h1 h2 h3 h4 => ?_
  have := r.dst1 q j oq o t h3 ho h4 ht
  omega

/-- No address of a block is there ahead of its making. -/
theorem textNol {j d : Nat} (hb : BoxBy aops d j) : ∀ p, p ≤ j → noLp d (S p).env = true
  | 0, _ => by
    obtain ⟨o, ho, hbo, hd⟩ := hb
    exact (r.start j o d ho hd).1 hbo
  | p + 1, hp => by
    have ih := textNol hb p (by omega)
    obtain ⟨oj, hoj, hbo, hd⟩ := hb
    have hlt := (List.getElem?_eq_some_iff.1 hoj).1
    obtain ⟨o, ho⟩ : ∃ o, aops[p]? = some o := ⟨_, List.getElem?_eq_getElem (by omega)⟩
    cases hm : mk p with
    | true => rw [r.skip p o ho hm]; exact ih
    | false =>
      obtain ⟨ue, e, h1, h2, h3⟩ := r.shape ho hm
      have hne : ∀ off, e ≠ .lp d off := by
        rintro off rfl
        rcases h3 with ⟨x, hx⟩ | ⟨cs, hc, _⟩ | ⟨u, off', hlp, x, hx, o', hax⟩
        · cases hx
        · cases hc
        · cases hlp
          cases x with
          | t t =>
            have hax' : adOf t (lget (S p).env t) = some (.lp d o') := hax
            cases hl : lget (S p).env t with
            | none => rw [hl] at hax'; cases hax'
            | some y =>
              rw [hl] at hax'
              cases y with
              | v _ => cases hax'
              | box cs =>
                have : t = d := by cases hax'; rfl
                subst this
                rcases r.uses p j o oj t ho hoj hd (mem_tmps_atom hx) with h | ⟨h, _⟩
                · have := r.back p j h; omega
                · rw [hbo] at h; cases h
              | lp u2 o2 =>
                cases hax'
                exact noLp_ok ih t _ hl
          | c v => cases hax
          | bad => cases hax
      have hue : noLp d (ue ++ (S p).env) = true := by
        rcases h2 with rfl | ⟨u, cs, ds, rfl, _⟩
        · exact ih
        · exact noLp_cons.2 ⟨(fun off hc => by cases hc), ih⟩
      rw [h1]
      unfold upd
      split
      · exact noLp_cons.2 ⟨hne, hue⟩
      · exact hue

theorem mb : ∀ (i j : Nat), i ≤ j → j ≤ aops.length → (∀ p o, i ≤ p → p < j → aops[p]? = some o → mk p = false → o.eff = false) →
    Mem (S i) (S j) ∧ ∀ t, (∀ p, BoxBy aops t p → p < i ∨ j ≤ p) → boxOf (lget (S j).env t) = boxOf (lget (S i).env t)
  | i, 0, h, _, _ => by rw [Nat.le_zero.1 h]; exact ⟨Mem.refl _, fun _ _ => rfl⟩
  | i, j + 1, h, hj, hno => by
    by_cases he : i = j + 1
    · rw [he]; exact ⟨Mem.refl _, fun _ _ => rfl⟩
    · obtain ⟨o, ho⟩ : ∃ o, aops[j]? = some o := ⟨_, List.getElem?_eq_getElem (by omega)⟩
      obtain ⟨h1, h2⟩ := mb i j (by omega) (by omega) fun p o h1 h2 h3 => hno p o h1 (by omega) h3
      cases hm : mk j with
      | true =>
        rw [r.skip j o ho hm]
        exact ⟨h1, fun t ht => h2 t fun p hp => by rcases ht p hp with h | h <;> omega⟩
      | false =>
      have hq := hno j o (by omega) (by omega) ho hm
      obtain ⟨m, e, henv, hnb⟩ := one_noeff hq (r.step j o ho hm)
      refine ⟨h1.trans m, fun t htb => ?_⟩
      rw [henv, ← h2 t fun p hp => by rcases htb p hp with h | h <;> omega]
      by_cases ht : o.dst = some t
      · rw [ht, lget_upd_same]
        have hb : isBoxOp o.op = false := by cases hb : isBoxOp o.op with
          | false => rfl
          | true => rcases htb j ⟨o, ho, hb, ht⟩ with h | h <;> omega
        have h0 := (r.start j o t ho ht).2 hb
        have hsh := r.ent0 ho ht (Nat.le_refl j)
        have hn : boxOf (lget (S j).env t) = none := by
          cases hc : boxOf (lget (S j).env t) with
          | none => rfl
          | some cs => obtain ⟨ds, hds⟩ := sh_isbox hsh hc; rw [h0] at hds; cases hds
        rw [hn]
        cases e with
        | box cs => exact absurd rfl (hnb hb cs)
        | v _ => rfl
        | lp _ _ => rfl
      · rw [lget_upd_ne ht]

theorem mAt_mono {k l : Nat} (h : k ≤ l) (hl : l ≤ es.length) : mAt es k ≤ mAt es l := by
  cases k with
  | zero => exact Nat.zero_le _
  | succ p =>
    cases l with
    | zero => omega
    | succ q =>
      have hp : es[p]? = some es[p] := List.getElem?_eq_getElem (by omega)
      have hq : es[q]? = some es[q] := List.getElem?_eq_getElem (by omega)
      simp only [mAt, hp, hq, Option.getD_some]
      by_cases hpq : p = q
      · subst hpq; rw [hp] at hq; simp only [Option.some.injEq] at hq; omega
      · have := (r.ess p q _ _ hp hq).1 (by omega)
        omega
theorem es_lt {q e : Nat} (h : es[q]? = some e) : e < aops.length := by
  obtain ⟨o, ho, _⟩ := (r.esm e).1 (List.mem_of_getElem? h)
  exact (List.getElem?_eq_some_iff.1 ho).1
theorem mAt_le {k : Nat} (hk : k ≤ es.length) : mAt es k ≤ aops.length := by
  cases k with
  | zero => exact Nat.zero_le _
  | succ q =>
    have hq : es[q]? = some es[q] := List.getElem?_eq_getElem (by omega)
    have := r.es_lt hq
    simp only [mAt, hq, Option.getD_some]
    omega
theorem mAt_le' {j k : Nat} (hk : k ≤ es.length) (h : ∀ q e, es[q]? = some e → (e < j ↔ q < k)) : mAt es k ≤ j := by
  cases k with
  | zero => exact Nat.zero_le _
  | succ q =>
    have hq : es[q]? = some es[q] := List.getElem?_eq_getElem (by omega)
    simp only [mAt, hq, Option.getD_some]
    exact (h q _ hq).2 (by omega)
/-- No effect lies between a place of the text and the last effect ahead of it. -/
theorem noeff {j k : Nat} (h : ∀ q e, es[q]? = some e → (e < j ↔ q < k)) (hk : k ≤ es.length) : ∀ p o, mAt es k ≤ p → p < j → aops[p]? = some o → mk p = false → o.eff = false := by
  intro p o h1 h2 h3 hm
  cases he : o.eff with
  | false => rfl
  | true =>
    exfalso
    obtain ⟨x, hx⟩ := List.getElem?_of_mem ((r.esm p).2 ⟨o, h3, he, hm⟩)
    have hxk := (h x p hx).1 h2
    cases k with
    | zero => omega
    | succ q =>
      have hq : es[q]? = some es[q] := List.getElem?_eq_getElem (by omega)
      simp only [mAt, hq, Option.getD_some] at h1
      by_cases hxq : x = q
      · subst hxq; rw [hq] at hx; cases hx; omega
      · have := (r.ess x q p _ hx hq).1 (by omega)
        omega

/-- The memory at a place of the text. -/
theorem mkT {j k m : Nat} (hj : j ≤ aops.length) (hk : k ≤ es.length) (h : ∀ q e, es[q]? = some e → (e < j ↔ q < k)) (hm1 : mAt es k ≤ m) (hm2 : m ≤ j) :
    Mem (S m) (S j) ∧ ∀ t, (∀ p, BoxBy aops t p → p < m ∨ j ≤ p) → boxOf (lget (S j).env t) = boxOf (lget (S m).env t) :=
  r.mb m j hm2 hj fun p o h1 h2 h3 => r.noeff h hk p o (by omega) h2 h3

theorem kAt (j : Nat) : ∃ k, k ≤ es.length ∧ ∀ q e, es[q]? = some e → (e < j ↔ q < k) := by
  refine ⟨(es.filter fun e => decide (e < j)).length, List.length_filter_le _ _, fun q e hq => ?_⟩
  constructor
  · intro he
    refine Nat.lt_of_lt_of_le (Nat.lt_succ_self q) (le_filter (by have := (List.getElem?_eq_some_iff.1 hq).1; omega) fun x f hx hlt => ?_)
    have : f < j := by
      by_cases hxq : x = q
      · subst hxq; rw [hq] at hx; cases hx; exact he
      · have := (r.ess x q f e hx hq).1 (by omega); omega
    simp [this]
  · intro hlt
    refine Decidable.byContradiction fun hn => ?_
    have : (es.filter fun e => decide (e < j)).length ≤ q := filter_le fun x f hx hf => by
      refine Decidable.byContradiction fun hxq => ?_
      simp at hf
      by_cases hxe : x = q
      · subst hxe; rw [hq] at hx; cases hx; exact hn hf
      · have := (r.ess q x e f hq hx).1 (by omega); omega
    omega
theorem box_unique {t p q : Nat} (hp : BoxBy aops t p) (hq : BoxBy aops t q) : p = q := by
  obtain ⟨o, ho, _, hd⟩ := hp
  obtain ⟨o', ho', _, hd'⟩ := hq
  exact r.dst1 p q o o' t ho ho' hd hd'
end Rg

structure J (aops : List AOper) (anc : Nat → List Nat) (es : List Nat) (S : Nat → St) (mk : Nat → Bool) (L : Nat → Prop) (k : Nat) (s : St) : Prop where
  clo : ∀ i, L i → ∀ a ∈ anc i, L a
  lm : ∀ i, L i → mk i = false
  kle : k ≤ es.length
  pre : ∀ q e, es[q]? = some e → (L e ↔ q < k)
  mem : Mem (S (mAt es k)) s
  box0 : ∀ t, (∀ j, ¬ BoxBy aops t j) → boxOf (lget s.env t) = boxOf (lget (S (mAt es k)).env t)
  box1 : ∀ t j, BoxBy aops t j → L j → boxOf (lget s.env t) = boxOf (lget (S (max (mAt es k) (j + 1))).env t)
  fresh : ∀ t j, BoxBy aops t j → ¬ L j → boxOf (lget (S (max (mAt es k) (j + 1))).env t) = boxOf (lget (S (j + 1)).env t)
  ent : ∀ t, (∀ j o, aops[j]? = some o → o.dst = some t → L j) → sh (lget s.env t) = sh (lget (S aops.length).env t)
  ent0 : ∀ t j o, aops[j]? = some o → o.dst = some t → ¬ L j → sh (lget s.env t) = sh (lget (S 0).env t)
  nol : ∀ j d, BoxBy aops d j → ¬ L j → noLp d s.env = true

section
variable {L : Nat → Prop} {k i : Nat} {s : St} {o : AOper}

theorem J.opd (r : Rg call ms aops anc es S mk sw) (h : J aops anc es S mk L k s) (ho : aops[i]? = some o) (hL : ¬ L i) (ha : ∀ a ∈ anc i, L a) {t : Nat} (ht : t ∈ o.tmps) : sh (lget s.env t) = sh (lget (S i).env t) := by
  have hlt := (List.getElem?_eq_some_iff.1 ho).1
  by_cases hex : ∃ (j : Nat) (oj : AOper), aops[j]? = some oj ∧ oj.dst = some t
  · obtain ⟨j, oj, hj, hd⟩ := hex
    rcases r.uses i j o oj t ho hj hd ht with hji | ⟨_, hij, _⟩
    · have hlt' := r.back i j hji
      have hjl := (List.getElem?_eq_some_iff.1 hj).1
      rw [h.ent t fun j' o' h1 h2 => by rw [r.dst1 j' j o' oj t h1 hj h2 hd]; exact ha j hji, r.ent2 hj hd (p := aops.length) (by omega) (Nat.le_refl _), r.ent2 hj hd hlt' (by omega)]
    · have hnL : ¬ L j := by
        rcases hij with rfl | hij
        · exact hL
        · exact fun hj' => hL (h.clo j hj' i hij)
      have hle : i ≤ j := by
        rcases hij with rfl | hij
        · exact Nat.le_refl _
        · exact Nat.le_of_lt (r.back j i hij)
      rw [h.ent0 t j oj hj hd hnL, r.ent0 hj hd hle]
  · rw [h.ent t fun j' o' h1 h2 => absurd ⟨j', o', h1, h2⟩ hex]
    exact r.entN i aops.length (by omega) (Nat.le_refl _) fun p q _ _ h3 h4 => hex ⟨p, q, h3, h4⟩

theorem ad_of_sh {s s' : St} {l : List Atom} (h : ∀ t, Atom.t t ∈ l → sh (lget s'.env t) = sh (lget s.env t)) : ∀ x ∈ l, s'.ad x = s.ad x := by
  intro x hx
  cases x with
  | t i => exact adOf_sh (h i hx)
  | c v => rfl
  | bad => rfl

theorem same2_of {s s' : St} (hsh : ∀ t ∈ o.tmps, sh (lget s'.env t) = sh (lget s.env t)) (m : Mem s s') (hb : ∀ u off x, x ∈ o.op.atoms → s.ad x = some (.lp u off) → boxOf (lget s'.env u) = boxOf (lget s.env u))
    (hl : isBoxOp o.op = true → ∀ d, o.dst = some d → noLp d s.env = true → noLp d s'.env = true) : Same2 o s s' :=
  ⟨⟨ad_of_sh fun t ht => hsh t (mem_tmps_atom ht), m.hp, m.nx, m.dfs, m.rc, fun x hx u off hax => hb u off x hx hax⟩, fun g w hg => isB_sh (hsh g (mem_tmps_grd hg)), hl⟩

/-- A block of which an operand gives an address was made ahead. -/
theorem J.lpL (r : Rg call ms aops anc es S mk sw) (h : J aops anc es S mk L k s) (ho : aops[i]? = some o) (hL : ¬ L i) (ha : ∀ a ∈ anc i, L a) {x : Atom} (hx : x ∈ o.op.atoms) {u off : Nat} (hax : (S i).ad x = some (.lp u off)) {j : Nat} (hb : BoxBy aops u j) :
    L j ∧ j < i := by
  have hb' := hb
  obtain ⟨oj, hoj, hbo, hd⟩ := hb'
  cases x with
  | t t =>
    have htm := mem_tmps_atom hx
    have hsh := h.opd r ho hL ha htm
    have hax' : adOf t (lget (S i).env t) = some (.lp u off) := hax
    cases hl : lget (S i).env t with
    | none => rw [hl] at hax'; cases hax'
    | some y =>
      rw [hl] at hax'
      cases y with
      | v _ => cases hax'
      | box cs =>
        have : t = u := by cases hax'; rfl
        subst this
        rcases r.uses i j o oj t ho hoj hd htm with h1 | ⟨h1, _⟩
        · exact ⟨ha j h1, r.back i j h1⟩
        · rw [hbo] at h1; cases h1
      | lp u2 o2 =>
        cases hax'
        constructor
        · refine Classical.byContradiction fun hn => ?_
          have hno := h.nol j u hb hn
          rw [hl] at hsh
          have : lget s.env t = some (.lp u off) := by
            cases hc : lget s.env t with
            | none => rw [hc] at hsh; cases hsh
            | some z => rw [hc] at hsh; cases z <;> simp [sh] at hsh; rw [hsh.1, hsh.2]
          exact noLp_ok hno t _ this
        · refine Nat.lt_of_not_le fun hle => ?_
          exact noLp_ok (r.textNol hb i hle) t _ hl
  | c v => cases hax
  | bad => cases hax

/-- An address that an operation gives leads into no block that will be made. -/
theorem J.nolp (r : Rg call ms aops anc es S mk sw) (h : J aops anc es S mk L k s) (ho : aops[i]? = some o) (ha : ∀ a ∈ anc i, L a) {e : E} (he : Re s o e) {j d : Nat} (hb : BoxBy aops d j) (hL : ¬ L j) (off : Nat) : e ≠ .lp d off := by
  rintro rfl
  have hb' := hb
  obtain ⟨oj, hj, hbo, hd⟩ := hb'
  rcases he with ⟨x, hx⟩ | ⟨cs, hc, _⟩ | ⟨u, off', hlp, x, hx, o', hax⟩
  · cases hx
  · cases hc
  · cases hlp
    cases x with
    | t t =>
      have hax' : adOf t (lget s.env t) = some (.lp d o') := hax
      cases hl : lget s.env t with
      | none => rw [hl] at hax'; cases hax'
      | some y =>
        rw [hl] at hax'
        cases y with
        | v _ => cases hax'
        | box cs =>
          have : t = d := by cases hax'; rfl
          subst this
          rcases r.uses i j o oj t ho hj hd (mem_tmps_atom hx) with h1 | ⟨h1, _⟩
          · exact hL (ha j h1)
          · rw [hbo] at h1; cases h1
        | lp u2 o2 =>
          cases hax'
          exact noLp_ok (h.nol j d hb hL) t _ hl
    | c v => cases hax
    | bad => cases hax

/-- The blocks that an operand may lead into, at an operation's turn. -/
theorem J.boxes (r : Rg call ms aops anc es S mk sw) (h : J aops anc es S mk L k s) (ho : aops[i]? = some o) (hL : ¬ L i) (ha : ∀ a ∈ anc i, L a) (hki : ∀ (y e : Nat), es[y]? = some e → (e < i ↔ y < k)) {x : Atom} (hx : x ∈ o.op.atoms) {u off : Nat} (hax : (S i).ad x = some (.lp u off)) :
    boxOf (lget s.env u) = boxOf (lget (S i).env u) := by
  have hlt := (List.getElem?_eq_some_iff.1 ho).1
  have hmi := r.mAt_le' h.kle hki
  by_cases hex : ∃ j, BoxBy aops u j
  · obtain ⟨j, hb⟩ := hex
    obtain ⟨hLj, hji⟩ := h.lpL r ho hL ha hx hax hb
    rw [h.box1 u j hb hLj]
    exact ((r.mkT (j := i) (by omega) h.kle hki (m := max (mAt es k) (j + 1)) (by omega) (by omega)).2 u fun p hp => by rw [r.box_unique hp hb]; omega).symm
  · rw [h.box0 u fun j hj => hex ⟨j, hj⟩]
    exact ((r.mkT (j := i) (by omega) h.kle hki (m := mAt es k) (Nat.le_refl _) hmi).2 u fun p hp => absurd ⟨p, hp⟩ hex).symm

/-- An effect's turn. -/
theorem J.eff (r : Rg call ms aops anc es S mk sw) (h : J aops anc es S mk L k s) (ho : aops[i]? = some o) (hm : mk i = false) (hL : ¬ L i) (ha : ∀ a ∈ anc i, L a) (he : o.eff = true) (hall : ∀ (x e : Nat), es[x]? = some e → e < i → L e) :
    ∃ s', evOne call ms o s = some s' ∧ J aops anc es S mk (fun j => L j ∨ j = i) (k + 1) s' ∧ es[k]? = some i ∧ Mem (S (i + 1)) s' := by
  have hlt := (List.getElem?_eq_some_iff.1 ho).1
  obtain ⟨q, hq⟩ := List.getElem?_of_mem ((r.esm i).2 ⟨o, ho, he, hm⟩)
  have hqlt := (List.getElem?_eq_some_iff.1 hq).1
  have hqk : q = k := by
    have h1 : ¬ q < k := fun hc => hL ((h.pre q i hq).2 hc)
    refine Decidable.byContradiction fun hne => ?_
    have hkq : k < q := by omega
    have hk : es[k]? = some es[k] := List.getElem?_eq_getElem (by omega)
    have := (h.pre k _ hk).1 (hall k _ hk ((r.ess k q _ i hk hq).1 hkq))
    omega
  subst hqk
  have hki : ∀ x e, es[x]? = some e → (e < i ↔ x < q) := fun x e hx => (r.ess x q e i hx hq).symm
  have hmi := r.mAt_le' h.kle hki
  have hM := fun m h1 h2 => r.mkT (j := i) (k := q) (m := m) (by omega) h.kle hki h1 h2
  have m2 : Mem (S i) s := (hM _ (Nat.le_refl _) hmi).1.symm.trans h.mem
  have hs2 : Same2 o (S i) s := same2_of (fun t ht => h.opd r ho hL ha ht) m2 (fun u off x hx hax => h.boxes r ho hL ha hki hx hax) fun hb d hd _ => h.nol i d ⟨o, ho, hb, hd⟩ hL
  obtain ⟨s', h1, h2, ue, e, h3, h4, h5, h6⟩ := one_same hs2 (r.step i o ho hm)
  have hre : Re s o e := by
    rcases h6 with h6 | h6 | ⟨u, off, hlp, x, hx, o', hax⟩
    · exact .inl h6
    · exact .inr (.inl h6)
    · exact .inr (.inr ⟨u, off, hlp, x, hx, o', by rw [hs2.same.ad x hx]; exact hax⟩)
  have hmk : mAt es (q + 1) = i + 1 := by simp only [mAt, hq, Option.getD_some]
  -- what the store within the frame's own blocks does to others
  have hue : ∀ t, (∀ u cs, ue = [(u, E.box cs)] → u ≠ t) → ∀ env, lget (ue ++ env) t = lget env t := by
    intro t hne env
    rcases h5 with rfl | ⟨u, cs, ds, rfl, _⟩
    · rfl
    · exact lget_cons_ne _ _ (hne u cs rfl)
  have hueL : ∀ u cs, ue = [(u, E.box cs)] → ∀ j, BoxBy aops u j → L j ∧ j < i := by
    intro u cs hu j hb
    rcases h5 with h5 | ⟨u', cs', ds, h5, _, x, hx, off, hax⟩
    · rw [h5] at hu; cases hu
    · rw [h5] at hu; cases hu
      exact h.lpL r ho hL ha hx hax hb
  have hue2 : ∀ t, boxOf (lget s.env t) = boxOf (lget (S i).env t) → boxOf (lget (ue ++ s.env) t) = boxOf (lget (ue ++ (S i).env) t) := by
    intro t ht
    rcases h5 with h5 | ⟨u, cs, ds, h5, _⟩
    · rw [h5]; exact ht
    · rw [h5]
      show boxOf (lget ((u, .box cs) :: s.env) t) = boxOf (lget ((u, .box cs) :: (S i).env) t)
      by_cases hut : u = t
      · subst hut; rw [lget_cons_same, lget_cons_same]
      · rw [lget_cons_ne _ _ hut, lget_cons_ne _ _ hut]; exact ht
  refine ⟨s', h1, ⟨fun j hj a haj => ?_, fun j hj => ?_, by omega, fun x e' hx => ?_, by rw [hmk]; exact h2, fun t ht => ?_, fun t j hb hj => ?_, fun t j hb hj => ?_, fun t ht => ?_, fun t j oj hj hd hnj => ?_, fun j d hb hLj => ?_⟩, hq, h2⟩
  · rcases hj with hj | rfl
    · exact .inl (h.clo j hj a haj)
    · exact .inl (ha a haj)
  · rcases hj with hj | rfl
    · exact h.lm j hj
    · exact hm
  · constructor
    · rintro (hl | rfl)
      · have := (h.pre x e' hx).1 hl; omega
      · rcases Nat.lt_trichotomy x q with hxq | hxq | hxq
        · omega
        · omega
        · have := (r.ess q x _ _ hq hx).1 hxq; omega
    · intro hx1
      by_cases hxq : x = q
      · subst hxq; rw [hq] at hx; cases hx; exact .inr rfl
      · exact .inl ((h.pre x e' hx).2 (by omega))
  · rw [hmk, h3, h4]
    by_cases hto : o.dst = some t
    · rw [hto, lget_upd_same, lget_upd_same]
    · rw [lget_upd_ne hto, lget_upd_ne hto]
      refine hue2 t ?_
      rw [h.box0 t ht]
      exact ((hM _ (Nat.le_refl _) hmi).2 t fun p hp => absurd hp (ht p)).symm
  · rw [hmk]
    by_cases hto : o.dst = some t
    · obtain ⟨oj, hoj, _, hd⟩ := hb
      have := r.dst1 j i oj o t hoj ho hd hto
      subst this
      rw [Nat.max_self, h3, h4, hto, lget_upd_same, lget_upd_same]
    · have hjL : L j := by
        rcases hj with hj | rfl
        · exact hj
        · obtain ⟨oj, hoj, _, hd⟩ := hb
          rw [ho] at hoj; cases hoj; exact absurd hd hto
      rw [h4, lget_upd_ne hto]
      rcases Nat.lt_trichotomy j i with hji | hji | hji
      · rw [Nat.max_eq_left (by omega), h3, lget_upd_ne hto]
        refine hue2 t ?_
        rw [h.box1 t j hb hjL]
        exact ((hM (max (mAt es q) (j + 1)) (by omega) (by omega)).2 t fun p hp => by rw [r.box_unique hp hb]; omega).symm
      · subst hji; exact absurd hjL hL
      · rw [hue t (fun u cs hu hut => by subst hut; have := (hueL u cs hu j hb).2; omega), Nat.max_eq_right (by omega), h.box1 t j hb hjL, Nat.max_eq_right (by omega)]
  · rw [hmk]
    have hnj : ¬ L j := fun hl => hj (.inl hl)
    have hji : j ≠ i := fun hl => hj (.inr hl)
    rcases Nat.lt_trichotomy j i with hlt' | hlt' | hlt'
    · have hto : o.dst ≠ some t := fun hd => by
        obtain ⟨oj, hoj, _, hd'⟩ := hb
        exact hji (r.dst1 j i oj o t hoj ho hd' hd)
      rw [Nat.max_eq_left (by omega), h3, lget_upd_ne hto, hue t (fun u cs hu hut => by subst hut; exact hnj (hueL u cs hu j hb).1), ← h.fresh t j hb hnj]
      exact (hM (max (mAt es q) (j + 1)) (by omega) (by omega)).2 t fun p hp => by rw [r.box_unique hp hb]; omega
    · exact absurd hlt' hji
    · rw [Nat.max_eq_right (by omega)]
  · rw [h4]
    by_cases hto : o.dst = some t
    · rw [r.ent2 ho hto (p := aops.length) (by omega) (Nat.le_refl _), h3, hto, lget_upd_same, lget_upd_same]
    · rw [lget_upd_ne hto, lget_ue h5 (fun u off x hx hax => hs2.same.box x hx u off hax) t]
      refine h.ent t fun j oj hj hd => ?_
      rcases ht j oj hj hd with hl | rfl
      · exact hl
      · rw [ho] at hj; cases hj; exact absurd hd hto
  · have hnj' : ¬ L j := fun hl => hnj (.inl hl)
    have hto : o.dst ≠ some t := fun hd' => hnj (.inr (r.dst1 j i oj o t hj ho hd hd'))
    rw [h4, lget_upd_ne hto, lget_ue h5 (fun u off x hx hax => hs2.same.box x hx u off hax) t]
    exact h.ent0 t j oj hj hd hnj'
  · have hLj' : ¬ L j := fun hl => hLj (.inl hl)
    have hold := h.nol j d hb hLj'
    have hue : noLp d (ue ++ s.env) = true := by
      rcases h5 with rfl | ⟨u, cs, ds, rfl, _⟩
      · exact hold
      · exact noLp_cons.2 ⟨(fun off hc => by cases hc), hold⟩
    rw [h4]
    unfold upd
    split
    · exact noLp_cons.2 ⟨h.nolp r ho ha hre hb hLj', hue⟩
    · exact hue

/-- The turn of what is no effect. -/
theorem J.calm (r : Rg call ms aops anc es S mk sw) (h : J aops anc es S mk L k s) (ho : aops[i]? = some o) (hm : mk i = false) (hL : ¬ L i) (ha : ∀ a ∈ anc i, L a) (he : o.eff = false) {s' : St} {e : E} (h2 : Mem s s')
    (h3 : (S (i + 1)).env = upd o.dst e (S i).env) (h4 : s'.env = upd o.dst e s.env) (hnb : isBoxOp o.op = false → ∀ cs, e ≠ .box cs) (hre : Re s o e) : J aops anc es S mk (fun j => L j ∨ j = i) k s' := by
  have hlt := (List.getElem?_eq_some_iff.1 ho).1
  refine ⟨fun j hj a haj => ?_, fun j hj => ?_, h.kle, fun x e' hx => ?_, h.mem.trans h2, fun t htb => ?_, fun t j hb hj => ?_, fun t j hb hj => h.fresh t j hb fun hl => hj (.inl hl), fun t ht => ?_, fun t j oj hj hd hnj => ?_, fun j d hb hLj => ?_⟩
  · rcases hj with hj | rfl
    · exact .inl (h.clo j hj a haj)
    · exact .inl (ha a haj)
  · rcases hj with hj | rfl
    · exact h.lm j hj
    · exact hm
  · rw [← h.pre x e' hx]
    constructor
    · rintro (hl | rfl)
      · exact hl
      · obtain ⟨o', ho', he', _⟩ := (r.esm _).1 (List.mem_of_getElem? hx)
        rw [ho] at ho'; cases ho'; rw [he] at he'; cases he'
    · exact .inl
  · rw [h4]
    by_cases ht : o.dst = some t
    · rw [ht, lget_upd_same]
      have hbo : isBoxOp o.op = false := by cases hb : isBoxOp o.op with
        | false => rfl
        | true => exact absurd ⟨o, ho, hb, ht⟩ (htb i)
      have hn : boxOf (some e) = none := by cases e with
        | box cs => exact absurd rfl (hnb hbo cs)
        | v _ => rfl
        | lp _ _ => rfl
      rw [hn]
      have hmn := r.mAt_le h.kle
      cases hc : boxOf (lget (S (mAt es k)).env t) with
      | none => rfl
      | some cs =>
        exfalso
        by_cases hmi : mAt es k ≤ i
        · obtain ⟨ds, hds⟩ := sh_isbox (r.ent0 ho ht hmi) hc
          rw [(r.start i o t ho ht).2 hbo] at hds
          cases hds
        · have hsh := r.ent2 ho ht (p := mAt es k) (by omega) hmn
          rw [h3, ht, lget_upd_same] at hsh
          obtain ⟨ds, hds⟩ := sh_isbox hsh hc
          rw [hn] at hds
          cases hds
    · rw [lget_upd_ne ht]; exact h.box0 t htb
  · rw [h4]
    by_cases ht : o.dst = some t
    · have hb' := hb
      obtain ⟨oj, hoj, _, hd⟩ := hb'
      have := r.dst1 j i oj o t hoj ho hd ht
      subst this
      rw [h.fresh t j hb hL, h3, ht, lget_upd_same, lget_upd_same]
    · have hjL : L j := by
        rcases hj with hj | rfl
        · exact hj
        · obtain ⟨oj, hoj, _, hd⟩ := hb
          rw [ho] at hoj; cases hoj; exact absurd hd ht
      rw [lget_upd_ne ht]; exact h.box1 t j hb hjL
  · rw [h4]
    by_cases hto : o.dst = some t
    · rw [r.ent2 ho hto (p := aops.length) (by omega) (Nat.le_refl _), h3, hto, lget_upd_same, lget_upd_same]
    · rw [lget_upd_ne hto]
      refine h.ent t fun j oj hj hd => ?_
      rcases ht j oj hj hd with hl | rfl
      · exact hl
      · rw [ho] at hj; cases hj; exact absurd hd hto
  · have hnj' : ¬ L j := fun hl => hnj (.inl hl)
    have hto : o.dst ≠ some t := fun hd' => hnj (.inr (r.dst1 j i oj o t hj ho hd hd'))
    rw [h4, lget_upd_ne hto]
    exact h.ent0 t j oj hj hd hnj'
  · have hLj' : ¬ L j := fun hl => hLj (.inl hl)
    have hold := h.nol j d hb hLj'
    rw [h4]
    unfold upd
    split
    · exact noLp_cons.2 ⟨h.nolp r ho ha hre hb hLj', hold⟩
    · exact hold
end
end
end Go.Air
