/- AIR: what an operation depends on. -/
import Derived.Test.YtkedfokcclpihaaGreatDoorAirRec
set_option linter.unusedSectionVars false
set_option linter.unusedSimpArgs false
set_option linter.unusedVariables false
set_option linter.unnecessarySimpa false
namespace Go.Air

theorem v_ad (s : St) (x : Atom) : s.v x = vOf (s.ad x) := by
  cases x with
  | t i =>
    show vOf (lget s.env i) = vOf (adOf i (lget s.env i))
    cases lget s.env i with
    | none => rfl
    | some e => cases e <;> rfl
  | c v => rfl
  | bad => rfl

/-- What gives the same in another state, and leaves the state. -/
def Qt (s s' : St) (r r' : OpR) : Prop := ∀ e s1, r = some (e, s1) → s1 = s ∧ r' = some (e, s')

section
variable {s s' : St}
theorem Qt.none : Qt s s' none none := fun _ _ h => by cases h
theorem Qt.val (x : V) : Qt s s' (s.val x) (s'.val x) := fun e s1 h => by cases h; exact ⟨rfl, rfl⟩
theorem Qt.some (e : E) : Qt s s' (some (e, s)) (some (e, s')) := fun e s1 h => by cases h; exact ⟨rfl, rfl⟩
theorem Qt.opt (r : Option V) : Qt s s' (s.opt r) (s'.opt r) := by
  cases r with
  | none => exact Qt.none
  | some x => exact Qt.val x
theorem Qt.optE (r : Option E) : Qt s s' (s.optE r) (s'.optE r) := by
  cases r with
  | none => exact Qt.none
  | some x => exact Qt.some x
theorem Qt.gd (b : Bool) {r r' : OpR} (h : Qt s s' r r') : Qt s s' (Air.gd b r) (Air.gd b r') := by
  cases b with
  | true => exact h
  | false => exact Qt.none

variable (h : ∀ x, True) {call : Caller} {ms : Meths}

theorem vs_agree : ∀ (l : List Atom), (∀ x ∈ l, s'.ad x = s.ad x) → s'.vs l = s.vs l
  | [], _ => rfl
  | x :: r, h => by
    show consO (s'.v x) (s'.vs r) = consO (s.v x) (s.vs r)
    rw [vs_agree r fun y hy => h y (List.mem_cons_of_mem _ hy), v_ad s', v_ad s, h x (List.mem_cons_self ..)]
theorem parts_agree : ∀ (l : List (Nat × Nat × Atom)), (∀ x ∈ l.map (·.2.2), s'.ad x = s.ad x) → s'.parts l = s.parts l
  | [], _ => rfl
  | (o, z, x) :: r, h => by
    have h1 : s'.v x = s.v x := by rw [v_ad s', v_ad s, h x (by simp)]
    have h2 := parts_agree r fun y hy => h y (by simp only [List.map_cons]; exact List.mem_cons_of_mem _ hy)
    simp only [St.parts, h1, h2]
theorem nat_agree {x : Atom} (h : s'.ad x = s.ad x) : s'.nat x = s.nat x := by
  show natOf (s'.v x) = natOf (s.v x)
  rw [v_ad s', v_ad s, h]
theorem optNat_agree {d : Nat} : ∀ {x : Option Atom}, (∀ y ∈ optA x, s'.ad y = s.ad y) → s'.optNat d x = s.optNat d x
  | none, _ => rfl
  | some x, h => nat_agree (h x (by simp [optA]))

theorem rows_atoms (sz : Nat) (ps : List (Nat × Atom)) : (rows sz ps).map (·.2.2) = ps.map (·.2) := by
  unfold rows
  rw [mapR_eq, List.map_map]
  rfl

theorem quiet_ok {op : AOp} (hq : op.quiet = true) (h : ∀ x ∈ op.atoms, s'.ad x = s.ad x) : Qt s s' (evStep call ms op s) (evStep call ms op s') := by
  have hv : ∀ x ∈ op.atoms, s'.v x = s.v x := fun x hx => by rw [v_ad s', v_ad s, h x hx]
  cases op with
  | mov x =>
    show Qt s s' (s.optE (s.ad x)) (s'.optE (s'.ad x))
    rw [h x (by simp [AOp.atoms])]; exact Qt.optE _
  | pick c x y =>
    show Qt s s' (evPick c x y s) (evPick c x y s')
    unfold evPick
    rw [hv c (by simp [AOp.atoms]), hv x (by simp [AOp.atoms]), hv y (by simp [AOp.atoms])]
    split
    · rename_i t _
      cases t with
      | true => exact Qt.opt _
      | false => exact Qt.opt _
    · exact Qt.none
  | build z ps =>
    show Qt s s' (evBuild z ps s) (evBuild z ps s')
    unfold evBuild
    rw [parts_agree ps fun x hx => h x (by simpa [AOp.atoms] using hx)]
    split
    · exact Qt.val _
    · exact Qt.none
  | mkisl sz ag z n ps =>
    show Qt s s' (evMkisl sz ag z n ps s) (evMkisl sz ag z n ps s')
    unfold evMkisl
    rw [parts_agree (rows sz ps) fun x hx => h x (by rw [rows_atoms] at hx; exact hx)]
    split
    · exact Qt.gd _ (Qt.val _)
    · exact Qt.none
  | nilchk x =>
    show Qt s s' (orElse' (evNilchk x s) (evNilM ms x s)) (orElse' (evNilchk x s') (evNilM ms x s'))
    have h1 : Qt s s' (evNilchk x s) (evNilchk x s') := by
      unfold evNilchk
      rw [h x (by simp [AOp.atoms])]
      split
      · exact Qt.some _
      · exact Qt.gd _ (Qt.val _)
      · exact Qt.none
    have h2 : Qt s s' (evNilM ms x s) (evNilM ms x s') := by
      unfold evNilM
      rw [hv x (by simp [AOp.atoms])]
      split
      · split
        · exact Qt.some _
        · exact Qt.none
      · exact Qt.none
    have h3 : evNilchk x s = none → evNilchk x s' = none := by
      unfold evNilchk
      rw [h x (by simp [AOp.atoms])]
      split
      · exact fun h => by cases h
      · rename_i y _
        cases nilOk y <;> exact fun h => by first | rfl | cases h
      · exact fun _ => rfl
    intro e s1 he
    cases hr : evNilchk x s with
    | some p =>
      rw [hr] at he
      have he' : some p = some (e, s1) := he
      obtain ⟨h4, h5⟩ := h1 e s1 (hr.trans he')
      exact ⟨h4, by rw [h5]; rfl⟩
    | none =>
      rw [hr] at he
      rw [h3 hr]
      exact h2 e s1 he
  | bin o x y =>
    show Qt s s' (evBin o x y s) (evBin o x y s')
    unfold evBin
    rw [hv x (by simp [AOp.atoms]), hv y (by simp [AOp.atoms])]
    split
    · split
      · exact Qt.opt _
      · exact Qt.none
    · exact Qt.none
  | eqx k n x y =>
    show Qt s s' (evEqx k n x y s) (evEqx k n x y s')
    unfold evEqx
    rw [hv x (by simp [AOp.atoms]), hv y (by simp [AOp.atoms])]
    split
    · split
      · exact Qt.opt _
      · exact Qt.none
    · exact Qt.none
  | un o x =>
    show Qt s s' (evUn o x s) (evUn o x s')
    unfold evUn
    rw [hv x (by simp [AOp.atoms])]
    split
    · exact Qt.opt _
    · exact Qt.none
  | conv c x =>
    show Qt s s' (evConv c x s) (evConv c x s')
    unfold evConv
    rw [hv x (by simp [AOp.atoms])]
    split
    · cases c with
      | wrap k => exact Qt.opt _
      | same => exact Qt.opt _
      | s2b e => cases hq
      | b2s => cases hq
    · exact Qt.none
  | mkif t x =>
    show Qt s s' (evMkif t x s) (evMkif t x s')
    unfold evMkif
    rw [hv x (by simp [AOp.atoms])]
    split
    · exact Qt.val _
    · exact Qt.none
  | mkfn f x y =>
    show Qt s s' (evMkfn f x y s) (evMkfn f x y s')
    unfold evMkfn
    rw [vs_agree x fun z hz => h z (by simp [AOp.atoms, hz]), vs_agree y fun z hz => h z (by simp [AOp.atoms, hz])]
    split
    · split
      · exact Qt.val _
      · exact Qt.none
    · exact Qt.none
  | slstr x lo hi =>
    show Qt s s' (evSlstr x lo hi s) (evSlstr x lo hi s')
    unfold evSlstr
    rw [hv x (by simp [AOp.atoms]), optNat_agree (x := lo) fun z hz => h z (by simp [AOp.atoms, hz])]
    split
    · rw [optNat_agree (x := hi) fun z hz => h z (by simp [AOp.atoms, hz])]
      split
      · split
        · exact Qt.opt _
        · exact Qt.none
      · exact Qt.none
    · exact Qt.none
  | fieldA o x =>
    show Qt s s' (evFieldA o x s) (evFieldA o x s')
    unfold evFieldA
    rw [h x (by simp [AOp.atoms])]
    split
    · exact Qt.optE _
    · exact Qt.none
  | field o n ag x =>
    show Qt s s' (evField o n ag x s) (evField o n ag x s')
    unfold evField
    rw [hv x (by simp [AOp.atoms])]
    exact Qt.opt _
  | idxAsl sz x i =>
    show Qt s s' (evIdxAsl sz x i s) (evIdxAsl sz x i s')
    unfold evIdxAsl
    rw [nat_agree (h i (by simp [AOp.atoms])), hv x (by simp [AOp.atoms])]
    split
    · split
      · exact Qt.gd _ (Qt.opt _)
      · exact Qt.gd _ (Qt.val _)
      · exact Qt.none
    · exact Qt.none
  | idxAarr k n x i =>
    show Qt s s' (evIdxAarr k n x i s) (evIdxAarr k n x i s')
    unfold evIdxAarr
    rw [nat_agree (h i (by simp [AOp.atoms])), h x (by simp [AOp.atoms])]
    split
    · refine Qt.gd _ ?_
      split
      · exact Qt.optE _
      · exact Qt.none
    · exact Qt.none
  | idxStr x i =>
    show Qt s s' (evIdxStr x i s) (evIdxStr x i s')
    unfold evIdxStr
    rw [nat_agree (h i (by simp [AOp.atoms])), hv x (by simp [AOp.atoms])]
    split
    · split
      · exact Qt.opt _
      · exact Qt.none
    · exact Qt.none
  | idxArr k n ag x i =>
    show Qt s s' (evIdxArr k n ag x i s) (evIdxArr k n ag x i s')
    unfold evIdxArr
    rw [nat_agree (h i (by simp [AOp.atoms])), hv x (by simp [AOp.atoms])]
    split
    · exact Qt.gd _ (Qt.opt _)
    · exact Qt.none
  | tassert t z ok x =>
    show Qt s s' (evTassert t z ok x s) (evTassert t z ok x s')
    unfold evTassert
    rw [hv x (by simp [AOp.atoms])]
    split
    · split
      · exact Qt.val _
      · exact Qt.gd _ (Qt.val _)
    · exact Qt.gd _ (Qt.val _)
    · exact Qt.none
  | extract x i =>
    show Qt s s' (evExtract x i s) (evExtract x i s')
    unfold evExtract
    rw [hv x (by simp [AOp.atoms])]
    split
    · exact Qt.opt _
    · exact Qt.none
  | mm b xs =>
    show Qt s s' (evMm b xs s) (evMm b xs s')
    unfold evMm
    rw [vs_agree xs fun z hz => h z (by simpa [AOp.atoms] using hz)]
    exact Qt.opt _
  | _ => cases hq
end
end Go.Air
