/- AIR: a state may be named anew (what is not needed is dropped); code that is walked by its AIR form. -/
import Derived.Test.YtkedfokcclpihaaGreatDoorAirDraw5
set_option linter.unusedSectionVars false
set_option linter.unusedSimpArgs false
set_option linter.unusedVariables false
set_option linter.unnecessarySimpa false
namespace Go.Air
variable [GL]
noncomputable section

def renN (ids : List Nat) (i j : Nat) : Bool :=
  match nthR j ids with
  | some k => Nat.beq k i
  | none => false
def sameB : Bool → Bool → Bool
  | true, true => true
  | false, false => true
  | _, _ => false
mutual
/-- The new value is the old one by new numbers. -/
def renV (ids : List Nat) : V → V → Bool
  | .bool a, .bool b => sameB a b
  | .int j a, .int k b => eqK j k && eqI a b
  | .str a, .str b => eqB a b
  | .nilp, .nilp => true
  | .ptr i o, .ptr j p => renN ids i j && Nat.beq o p
  | .iptr a, .iptr b => renVs ids a b
  | .nsl, .nsl => true
  | .isl c y a, .isl d z b => sameB c d && (Nat.beq y z && renVs ids a b)
  | .msl i o n, .msl j p m => renN ids i j && (Nat.beq o p && Nat.beq n m)
  | .nilmap, .nilmap => true
  | .map i, .map j => renN ids i j
  | .nilfn, .nilfn => true
  | .fn (.func f) a b, .fn (.func g) c d => Nat.beq f g && (renVs ids a c && renVs ids b d)
  | .nili, .nili => true
  | .iface t a, .iface u b => Nat.beq t u && renV ids a b
  | .agg a, .agg b => renVs ids a b
  | .tup a, .tup b => renVs ids a b
  | _, _ => false
def renVs (ids : List Nat) : List V → List V → Bool
  | [], [] => true
  | a :: x, b :: y => renV ids a b && renVs ids x y
  | _, _ => false
end

/-- The ghost by new numbers. -/
def G.ren (g : G) (ids : List Nat) : G := { L := g.L, hp := fun j => (ids[j]?).bind g.hp, nx := ids.length }

theorem renN_some {ids : List Nat} {i j : Nat} (h : renN ids i j = true) : ids[j]? = some i := by
  unfold renN at h
  rw [nthR_eq] at h
  cases hj : ids[j]? with
  | none => rw [hj] at h; cases h
  | some k =>
    rw [hj] at h
    rw [Nat.eq_of_beq_eq_true h]
theorem sameB_eq {a b : Bool} (h : sameB a b = true) : a = b := by cases a <;> cases b <;> first | rfl | cases h
theorem eqK_of {j k : IntKind} (h : eqK j k = true) : j = k := by cases j <;> cases k <;> first | rfl | cases h
theorem eqI_of {a b : Int} (h : eqI a b = true) : a = b := by
  cases a <;> cases b
  · rw [Nat.eq_of_beq_eq_true h]
  · cases h
  · cases h
  · rw [Nat.eq_of_beq_eq_true h]

theorem ren_hp {g : G} {ids : List Nat} {i j : Nat} (h : ids[j]? = some i) {p : Pl} (hp : (g.ren ids).hp j = some p) : g.hp i = some p := by
  have h' : (ids[j]?).bind g.hp = some p := hp
  rw [h] at h'
  exact h'
theorem ren_lt {ids : List Nat} {i j : Nat} (h : ids[j]? = some i) : j < ids.length := (List.getElem?_eq_some_iff.1 h).1

mutual
theorem renV_rep {g : G} {ids : List Nat} : ∀ (x y : V) (v : Value), renV ids x y = true → Rep g x v → Rep (g.ren ids) y v
  | .undef, y, v, h, r => by cases y <;> simp [renV] at h
  | .bool a, y, v, h, r => by cases y <;> simp [renV] at h; rw [← sameB_eq h]; simpa [Rep] using r
  | .int j a, y, v, h, r => by cases y <;> simp [renV] at h; rw [← eqK_of h.1, ← eqI_of h.2]; simpa [Rep] using r
  | .str a, y, v, h, r => by cases y <;> simp [renV, eqB_eq] at h; rw [← h]; simpa [Rep] using r
  | .nilp, y, v, h, r => by cases y <;> simp [renV] at h; simpa [Rep] using r
  | .ptr i o, y, v, h, r => by
    cases y <;> simp [renV] at h
    obtain ⟨h1, h2⟩ := h
    have hj := renN_some h1
    simp only [Rep] at r ⊢
    obtain ⟨_, b, k, hv, hp⟩ := r
    exact ⟨ren_lt hj, b, k, by rw [hv, h2], fun p q => hp p (ren_hp hj q)⟩
  | .iptr a, y, v, h, r => by
    cases y <;> simp [renV] at h
    simp only [Rep] at r ⊢
    obtain ⟨c, b, o, ys, he, hr, hc, hl⟩ := r
    exact ⟨c, b, o, ys, he, renVs_rep a _ ys h hr, hc, hl⟩
  | .nsl, y, v, h, r => by cases y <;> simp [renV] at h; simpa [Rep] using r
  | .isl c z a, y, v, h, r => by
    cases y <;> simp [renV] at h
    obtain ⟨h1, h2, h3⟩ := h
    have hc := sameB_eq h1
    subst hc h2
    simp only [Rep] at r ⊢
    obtain ⟨d, cap, b, o, he, hcp, ha, hr⟩ := r
    have hl := renVs_len _ _ h3
    exact ⟨d, cap, b, o, by rw [he, hl], by omega, fun hne => ha fun hn => hne (by
      subst hn
      exact List.eq_nil_of_length_eq_zero (by simpa using hl.symm)), renEls_rep a _ c z b o h3 hr⟩
  | .msl i o n, y, v, h, r => by
    cases y <;> simp [renV] at h
    obtain ⟨h1, h2, h3⟩ := h
    subst h2 h3
    have hj := renN_some h1
    simp only [Rep] at r ⊢
    obtain ⟨_, a, cap, he, hc, ha, hp⟩ := r
    exact ⟨ren_lt hj, a, cap, he, hc, fun h0 => let ⟨b, k, e1, e2⟩ := ha h0; ⟨b, k, e1, fun p q => e2 p (ren_hp hj q)⟩, fun p q => hp p (ren_hp hj q)⟩
  | .nilmap, y, v, h, r => by cases y <;> simp [renV] at h; simpa [Rep] using r
  | .map i, y, v, h, r => by
    cases y <;> simp [renV] at h
    have hj := renN_some h
    simp only [Rep] at r ⊢
    obtain ⟨_, q, hv, hp⟩ := r
    exact ⟨ren_lt hj, q, hv, fun p e => hp p (ren_hp hj e)⟩
  | .nilfn, y, v, h, r => by cases y <;> simp [renV] at h; simpa [Rep] using r
  | .fn f a b, y, v, h, r => by
    cases f with
    | func k =>
      cases y with
      | fn f' c d =>
        cases f' with
        | func m =>
          simp [renV] at h
          obtain ⟨h1, h2, h3⟩ := h
          subst h1
          simp only [Rep] at r ⊢
          obtain ⟨xs, ys, he, ha, hb⟩ := r
          exact ⟨xs, ys, he, renVs_rep a _ _ h2 ha, renVs_rep b _ _ h3 hb⟩
        | _ => simp [renV] at h
      | _ => simp [renV] at h
    | _ => cases y <;> simp [renV] at h
  | .nili, y, v, h, r => by cases y <;> simp [renV] at h; simpa [Rep] using r
  | .iface t a, y, v, h, r => by
    cases y <;> simp [renV] at h
    obtain ⟨h1, h2⟩ := h
    subst h1
    simp only [Rep] at r ⊢
    obtain ⟨u, he, hx⟩ := r
    exact ⟨u, he, renV_rep a _ u h2 hx⟩
  | .agg a, y, v, h, r => by
    cases y <;> simp [renV] at h
    simp only [Rep] at r ⊢
    obtain ⟨xs, he, hr, hc⟩ := r
    exact ⟨xs, he, renVs_rep a _ _ h hr, hc⟩
  | .tup a, y, v, h, r => by
    cases y <;> simp [renV] at h
    simp only [Rep] at r ⊢
    obtain ⟨ys, he, hr⟩ := r
    exact ⟨ys, he, renVs_rep a _ _ h hr⟩
theorem renVs_rep {g : G} {ids : List Nat} : ∀ (xs ys : List V) (vs : List Value), renVs ids xs ys = true → Reps g xs vs → Reps (g.ren ids) ys vs
  | [], ys, vs, h, r => by cases ys <;> simp [renVs] at h; simpa [Reps] using r
  | x :: q, ys, vs, h, r => by
    cases ys with
    | nil => simp [renVs] at h
    | cons y p =>
      simp [renVs] at h
      simp only [Reps] at r ⊢
      obtain ⟨u, us, he, hx, hr⟩ := r
      exact ⟨u, us, he, renV_rep x y u h.1 hx, renVs_rep q p us h.2 hr⟩
theorem renEls_rep {g : G} {ids : List Nat} : ∀ (xs ys : List V) (c : Bool) (z b o : Nat), renVs ids xs ys = true → RepEls g c z b o xs → RepEls (g.ren ids) c z b o ys
  | [], ys, c, z, b, o, h, r => by cases ys <;> simp [renVs] at h; simp [RepEls]
  | x :: q, ys, c, z, b, o, h, r => by
    cases ys with
    | nil => simp [renVs] at h
    | cons y p =>
      simp [renVs] at h
      simp only [RepEls] at r ⊢
      obtain ⟨⟨v, hv, h1, h2, h3, h4⟩, hr⟩ := r
      have hl := renV_cells x y h.1
      exact ⟨⟨v, renV_rep x y v h.1 hv, by rw [h1, hl], by rw [← hl, h2], h3, h4⟩, renEls_rep q p c z b (o + z) h.2 hr⟩
theorem renV_cells {ids : List Nat} : ∀ (x y : V), renV ids x y = true → x.cells.length = y.cells.length
  | .undef, y, h => by cases y <;> simp [renV] at h
  | .bool _, y, h => by cases y <;> simp [renV] at h; rfl
  | .int _ _, y, h => by cases y <;> simp [renV] at h; rfl
  | .str _, y, h => by cases y <;> simp [renV] at h; rfl
  | .nilp, y, h => by cases y <;> simp [renV] at h; rfl
  | .ptr _ _, y, h => by cases y <;> simp [renV] at h; rfl
  | .iptr _, y, h => by cases y <;> simp [renV] at h; rfl
  | .nsl, y, h => by cases y <;> simp [renV] at h; rfl
  | .isl _ _ _, y, h => by cases y <;> simp [renV] at h; rfl
  | .msl _ _ _, y, h => by cases y <;> simp [renV] at h; rfl
  | .nilmap, y, h => by cases y <;> simp [renV] at h; rfl
  | .map _, y, h => by cases y <;> simp [renV] at h; rfl
  | .nilfn, y, h => by cases y <;> simp [renV] at h; rfl
  | .fn f _ _, y, h => by
    cases y with
    | fn _ _ _ => rfl
    | _ => cases f <;> simp [renV] at h
  | .nili, y, h => by cases y <;> simp [renV] at h; rfl
  | .iface _ _, y, h => by cases y <;> simp [renV] at h; rfl
  | .agg a, y, h => by cases y <;> simp [renV] at h; exact renVs_len a _ h
  | .tup a, y, h => by cases y <;> simp [renV] at h; rfl
theorem renVs_len {ids : List Nat} : ∀ (xs ys : List V), renVs ids xs ys = true → xs.length = ys.length
  | [], ys, h => by cases ys <;> simp [renVs] at h; rfl
  | x :: q, ys, h => by
    cases ys with
    | nil => simp [renVs] at h
    | cons y p =>
      simp [renVs] at h
      simp [renVs_len q p h.2]
end

theorem renVs_get {ids : List Nat} : ∀ (xs ys : List V), renVs ids xs ys = true → ∀ (j : Nat) (y : V), ys[j]? = some y → ∃ x, xs[j]? = some x ∧ renV ids x y = true
  | [], ys, h, j, y, hy => by cases ys <;> simp [renVs] at h; simp at hy
  | x :: q, ys, h, j, y, hy => by
    cases ys with
    | nil => simp [renVs] at h
    | cons z p =>
      simp [renVs] at h
      cases j with
      | zero => simp at hy; subst hy; exact ⟨x, rfl, h.1⟩
      | succ j => simpa using renVs_get q p h.2 j y (by simpa using hy)

def renE (ids : List Nat) : E → E → Bool
  | .v x, .v y => renV ids x y
  | .box a, .box b => renVs ids a b
  | .lp t o, .lp u p => Nat.beq t u && Nat.beq o p
  | _, _ => false
def renMap (ids : List Nat) : List (V × V) → List (V × V) → Bool
  | [], [] => true
  | (a, b) :: r, (c, d) :: q => renV ids a c && (renV ids b d && renMap ids r q)
  | _, _ => false
def renO (ids : List Nat) : Obj → Obj → Bool
  | .cells t z a, .cells u y b => Nat.beq t u && (Nat.beq z y && renVs ids a b)
  | .map a, .map b => renMap ids a b
  | _, _ => false
def renEO (ids : List Nat) (x : Option E) (e : E) : Bool :=
  match x with
  | some y => renE ids y e
  | none => false
def renOO (ids : List Nat) (x : Option Obj) (o : Obj) : Bool :=
  match x with
  | some y => renO ids y o
  | none => false
def renEnv (ids : List Nat) (env : List (Nat × E)) : List (Nat × E) → Bool
  | [] => true
  | p :: r => renEO ids (lget env p.1) p.2 && renEnv ids env r
def renObjs (ids : List Nat) (hp : Heap) : List Nat → List Obj → Bool
  | [], [] => true
  | i :: r, o :: q => renOO ids (hget hp i) o && renObjs ids hp r q
  | _, _ => false
def nodupB : List Nat → Bool
  | [] => true
  | i :: r => r.all (fun j => !Nat.beq i j) && nodupB r
/-- A heap of objects in a row. -/
def mkHeapR : List Obj → Nat → Heap → Heap
  | [], _, h => h
  | o :: r, i, h => mkHeapR r (i + 1) (hset h i o)
def mkHeap (l : List Obj) : Heap := mkHeapR l 0 .nil
def nilD : List (V × List V) → Bool
  | [] => true
  | _ => false
def renSt (ids : List Nat) (objs : List Obj) (env : List (Nat × E)) (s : St) : Bool :=
  nilD s.dfs && (nodupB ids && (renObjs ids s.hp ids objs && renEnv ids s.env env))
/-- The state by new numbers. -/
def stOf (ids : List Nat) (objs : List Obj) (env : List (Nat × E)) (rc : Bool) : St := ⟨env, mkHeap objs, ids.length, [], rc⟩

theorem nodupB_inj : ∀ {ids : List Nat}, nodupB ids = true → ∀ {p q i : Nat}, ids[p]? = some i → ids[q]? = some i → p = q
  | [], _, p, q, i, h, _ => by simp at h
  | x :: r, h, p, q, i, hp, hq => by
    simp only [nodupB, Bool.and_eq_true, List.all_eq_true] at h
    cases p with
    | zero =>
      simp at hp
      subst hp
      cases q with
      | zero => rfl
      | succ q =>
        have := h.1 x (List.mem_of_getElem? (by simpa using hq))
        simp at this
    | succ p =>
      cases q with
      | zero =>
        simp at hq
        subst hq
        have := h.1 x (List.mem_of_getElem? (by simpa using hp))
        simp at this
      | succ q => exact congrArg (· + 1) (nodupB_inj h.2 (by simpa using hp) (by simpa using hq))

theorem mkHeapR_get : ∀ (l : List Obj) (i : Nat) (h : Heap) (j : Nat), hget (mkHeapR l i h) j = if i ≤ j then (match l[j - i]? with | some o => some o | none => hget h j) else hget h j
  | [], i, h, j => by simp [mkHeapR]
  | o :: r, i, h, j => by
    unfold mkHeapR
    rw [mkHeapR_get r (i + 1) _ j, hget_hset]
    by_cases hij : i ≤ j
    · rw [if_pos hij]
      by_cases he : j = i
      · subst he; rw [if_neg (by omega), if_pos rfl]; simp
      · rw [if_pos (by omega), if_neg he]
        obtain ⟨k, rfl⟩ : ∃ k, j = i + (k + 1) := ⟨j - i - 1, by omega⟩
        rw [show i + (k + 1) - i = k + 1 by omega, show i + (k + 1) - (i + 1) = k by omega]
        simp
    · rw [if_neg hij, if_neg (by omega), if_neg (by omega)]
theorem hget_nil (j : Nat) : hget (.nil : Heap) j = none := rfl
theorem mkHeap_get (l : List Obj) (j : Nat) : hget (mkHeap l) j = l[j]? := by
  unfold mkHeap
  rw [mkHeapR_get]
  simp only [Nat.zero_le, if_true, Nat.sub_zero, hget_nil]
  cases l[j]? <;> rfl

theorem renObjs_get {ids : List Nat} {hp : Heap} : ∀ {l : List Nat} {objs : List Obj}, renObjs ids hp l objs = true → objs.length = l.length ∧ ∀ (j : Nat) (o : Obj), objs[j]? = some o → ∃ i o0, l[j]? = some i ∧ hget hp i = some o0 ∧ renO ids o0 o = true
  | [], objs, h => by cases objs <;> simp [renObjs] at h; exact ⟨rfl, fun j o ho => by simp at ho⟩
  | i :: r, objs, h => by
    cases objs with
    | nil => simp [renObjs] at h
    | cons p q =>
      simp [renObjs] at h
      obtain ⟨h1, h2⟩ := renObjs_get h.2
      refine ⟨by simp [h1], fun j o ho => ?_⟩
      cases j with
      | zero =>
        simp at ho
        subst ho
        have := h.1
        unfold renOO at this
        split at this
        · rename_i o0 ho0; exact ⟨i, o0, rfl, ho0, this⟩
        · cases this
      | succ j => simpa using h2 j o (by simpa using ho)
theorem renEnv_get {ids : List Nat} {env : List (Nat × E)} : ∀ {l : List (Nat × E)}, renEnv ids env l = true → ∀ t e, lget l t = some e → ∃ e0, lget env t = some e0 ∧ renE ids e0 e = true
  | [], _, t, e, h => by simp [lget] at h
  | (u, x) :: r, h, t, e, he => by
    simp [renEnv] at h
    rw [lget_cons] at he
    split at he
    · rename_i hu
      subst hu
      cases he
      have := h.1
      unfold renEO at this
      split at this
      · rename_i y hy; exact ⟨y, hy, this⟩
      · cases this
    · exact renEnv_get h.2 t e he

section
variable {P : Program} {rc : Bool} {nt : Nat} {w0 : World} {g0 : G} {w : World} {g : G} {bx : Nat → Option Nat} {s : St} {a : Act}

theorem renMap_at {ids : List Nat} : ∀ (a b : List (V × V)) (es : List MapEntry), renMap ids a b = true → MapsAt g a es → MapsAt (g.ren ids) b es
  | [], b, es, h, m => by cases b <;> simp [renMap] at h; cases m; exact .nil
  | (k, x) :: r, b, es, h, m => by
    cases b with
    | nil => simp [renMap] at h
    | cons p q =>
      obtain ⟨k', x'⟩ := p
      simp [renMap] at h
      cases m with
      | cons hk hx hr => exact .cons (renV_rep _ _ _ h.1 hk) (renV_rep _ _ _ h.2.1 hx) (renMap_at r q _ h.2.2 hr)

theorem renO_at {ids : List Nat} {p : Pl} {o0 o : Obj} (h : renO ids o0 o = true) (ho : ObjAt w g p o0) : ObjAt w (g.ren ids) p o := by
  cases o0 with
  | cells t z a =>
    cases o with
    | cells u y b =>
      simp [renO] at h
      obtain ⟨h1, h2, h3⟩ := h
      subst h1 h2
      obtain ⟨e, arr, fr, hb, hf, hs, hc, hl, hx⟩ := ho
      refine ⟨e, arr, fr, hb, hf, hs, hc, by rw [← renVs_len _ _ h3]; exact hl, fun j y hy => ?_⟩
      obtain ⟨x, hx', hr⟩ := renVs_get _ _ h3 j y hy
      obtain ⟨v, hv, hrep⟩ := hx j x hx'
      exact ⟨v, hv, renV_rep x y v hr hrep⟩
    | map _ => simp [renO] at h
  | map a =>
    cases o with
    | cells _ _ _ => simp [renO] at h
    | map b =>
      simp [renO] at h
      obtain ⟨ents, clk, hb, hm⟩ := ho
      exact ⟨ents, clk, hb, renMap_at a b _ h hm⟩

/-- A value that needs no object. -/
def FreeV (x : V) : Prop := ∀ (g g' : G) (v : Value), g'.L = g.L → Rep g x v → Rep g' x v
theorem freeV_int (k : IntKind) (n : Int) : FreeV (.int k n) := fun g g' v _ h => by simpa [Rep] using h
theorem freeV_bool (b : Bool) : FreeV (.bool b) := fun g g' v _ h => by simpa [Rep] using h
theorem freeV_bools {c : Bool} {z : Nat} {l : List V} (hl : ∀ x ∈ l, FreeV x) : FreeV (.isl c z l) := by
  intro g g' v hL h
  simp only [Rep] at h ⊢
  obtain ⟨a, cap, b, o, he, hc, ha, hr⟩ := h
  refine ⟨a, cap, b, o, he, hc, ha, ?_⟩
  clear he hc ha
  induction l generalizing o with
  | nil => simp [RepEls]
  | cons x r ih =>
    simp only [RepEls] at hr ⊢
    obtain ⟨⟨u, hu, h1, h2, h3, h4⟩, hr⟩ := hr
    exact ⟨⟨u, hl x (List.mem_cons_self ..) g g' u hL hu, h1, h2, h3, fun j y hy => by rw [hL]; exact h4 j y hy⟩, ih (fun y hy => hl y (List.mem_cons_of_mem _ hy)) _ hr⟩

theorem gcx_ok (h : Sim rc nt w0 g0 w g bx s a) (h0 : g0.nx = 0) {ids : List Nat} {objs : List Obj} {env : List (Nat × E)} (hd : nilD s.dfs = true) (hn : nodupB ids = true) (ho : renObjs ids s.hp ids objs = true)
    (henv : ∀ t e, lget env t = some e → ∃ e0, lget s.env t = some e0 ∧ (renE ids e0 e = true ∨ (e0 = e ∧ ∃ x, e = .v x ∧ FreeV x))) :
    ∃ g' bx', Sim rc nt w0 g0 w g' bx' (stOf ids objs env rc) a := by
  obtain ⟨hlen, hobj⟩ := renObjs_get ho
  refine ⟨g.ren ids, fun t => match lget env t with | some (.box _) => bx t | _ => none, ⟨rfl, h.inv.lock, fun j o hj => ?_, fun j p hj => ?_, fun i j p q hi hj hb => ?_, fun j p c o hj => ?_, h.inv.glob⟩, ⟨fun t e hte => ?_, fun t b hb => ?_, fun t u b h1 h2 => ?_, fun t b id p h1 h2 => ?_, fun t b c o h1 => ?_⟩,
    h.size, ?_, ⟨h.step.os, h.step.tape, h.step.output, h.step.size, ⟨h.step.ext.L, fun id p hi => by omega, by rw [h0]; exact Nat.zero_le _⟩, h.step.keep, fun j p hj => ?_, h.step.lNew⟩, fun t b hb => ?_, rfl⟩
  · have hj' : (mkHeap objs |> fun hp => hget hp j) = some o := hj
    rw [show hget (stOf ids objs env rc).hp j = objs[j]? from mkHeap_get objs j] at hj
    obtain ⟨i, o0, hi, ho0, hro⟩ := hobj j o hj
    obtain ⟨_, p, hp, hat⟩ := h.inv.obj i o0 ho0
    exact ⟨ren_lt hi, p, by show (ids[j]?).bind g.hp = _; rw [hi]; exact hp, renO_at hro hat⟩
  · have hlt : j < ids.length := by
      have hj' : (ids[j]?).bind g.hp = some p := hj
      cases hi : ids[j]? with
      | none => rw [hi] at hj'; cases hj'
      | some i => exact ren_lt hi
    refine ⟨objs[j]'(by omega), ?_⟩
    show hget (mkHeap objs) j = _
    rw [mkHeap_get, List.getElem?_eq_getElem]
  · have hi' : (ids[i]?).bind g.hp = some p := hi
    have hj' : (ids[j]?).bind g.hp = some q := hj
    cases hii : ids[i]? with
    | none => rw [hii] at hi'; cases hi'
    | some x =>
      cases hjj : ids[j]? with
      | none => rw [hjj] at hj'; cases hj'
      | some y =>
        rw [hii] at hi'; rw [hjj] at hj'
        have := h.inv.inj x y p q hi' hj' hb
        subst this
        exact nodupB_inj hn hii hjj
  · have hj' : (ids[j]?).bind g.hp = some p := hj
    cases hi : ids[j]? with
    | none => rw [hi] at hj'; cases hj'
    | some i => rw [hi] at hj'; exact h.inv.unl i p c o hj'
  · obtain ⟨e0, h1, h2⟩ := henv t e hte
    have hat := h.env.at_ t e0 h1
    rcases h2 with h2 | ⟨rfl, x, rfl, hx⟩
    rotate_left
    · exact hx g (g.ren ids) _ rfl hat
    cases e0 with
    | v x =>
      cases e with
      | v y => exact renV_rep x y _ h2 hat
      | box _ => cases h2
      | lp _ _ => cases h2
    | box cs =>
      cases e with
      | v _ => cases h2
      | lp _ _ => cases h2
      | box ds =>
        obtain ⟨b, hb, hv, arr, ty, fr, ha, hf, hs, hc, hx⟩ := hat
        have hlt : lget env t = some (.box ds) := hte
        refine ⟨b, by show (match lget env t with | some (.box _) => bx t | _ => none) = _; rw [hlt]; exact hb, hv, arr, ty, fr, ha, hf, by rw [hs]; exact renVs_len _ _ h2, hc, fun j y hy => ?_⟩
        obtain ⟨x, hx', hrr⟩ := renVs_get _ _ h2 j y hy
        obtain ⟨v, hv', hrep⟩ := hx j x hx'
        exact ⟨v, hv', renV_rep x y v hrr hrep⟩
    | lp u off =>
      cases e with
      | v _ => cases h2
      | box _ => cases h2
      | lp u' off' =>
        have h2' : (Nat.beq u u' && Nat.beq off off') = true := h2
        rw [Bool.and_eq_true] at h2'
        have e1 := Nat.eq_of_beq_eq_true h2'.1
        have e2 := Nat.eq_of_beq_eq_true h2'.2
        subst e1 e2
        obtain ⟨b, hv, hb⟩ := hat
        refine ⟨b, hv, fun cs hcs => ?_⟩
        have hcs' : lget env u = some (.box cs) := hcs
        show (match lget env u with | some (.box _) => bx u | _ => none) = _
        rw [hcs']
        obtain ⟨e0, h3, h4⟩ := henv u _ hcs'
        rcases h4 with h4 | ⟨_, x, hx, _⟩
        rotate_left
        · cases hx
        cases e0 with
        | box ds => exact hb ds h3
        | v _ => cases h4
        | lp _ _ => cases h4
  · have hb' : (match lget env t with | some (.box _) => bx t | _ => none) = some b := hb
    split at hb'
    · rename_i cs hcs; exact ⟨cs, hcs⟩
    · cases hb'
  · have e1 : (match lget env t with | some (.box _) => bx t | _ => none) = some b := h1
    have e2 : (match lget env u with | some (.box _) => bx u | _ => none) = some b := h2
    split at e1
    · split at e2
      · exact h.env.inj t u b e1 e2
      · cases e2
    · cases e1
  · have e1 : (match lget env t with | some (.box _) => bx t | _ => none) = some b := h1
    have h2' : (ids[id]?).bind g.hp = some p := h2
    split at e1
    · cases hi : ids[id]? with
      | none => rw [hi] at h2'; cases h2'
      | some i => rw [hi] at h2'; exact h.env.hp t b i p e1 h2'
    · cases e1
  · have e1 : (match lget env t with | some (.box _) => bx t | _ => none) = some b := h1
    split at e1
    · exact h.env.unl t b c o e1
    · cases e1
  · have hdf := h.dfs
    cases hs : s.dfs with
    | nil => rw [hs] at hdf; cases hda : a.defers with
      | nil => exact .nil
      | cons _ _ => rw [hda] at hdf; cases hdf
    | cons _ _ => rw [hs] at hd; cases hd
  · have hj' : (ids[j]?).bind g.hp = some p := hj
    cases hi : ids[j]? with
    | none => rw [hi] at hj'; cases hj'
    | some i => rw [hi] at hj'; exact h.step.hpNew i p hj'
  · have e1 : (match lget env t with | some (.box _) => bx t | _ => none) = some b := hb
    split at e1
    · exact h.own t b e1
    · cases e1
end

section
variable {P : Program} {rc : Bool} {nt : Nat} {w0 : World} {g0 : G} {w : World} {g : G} {bx : Nat → Option Nat} {s : St} {a : Act}
def xsE (xs : List (Nat × V)) : List (Nat × E) := mapR (fun p => (p.1, E.v p.2)) xs
/-- The state by its objects, its entries, values that need no object. -/
def stX (objs : List Obj) (env : List (Nat × E)) (xs : List (Nat × V)) : St := ⟨appR env (xsE xs), mkHeap objs, lenR objs, [], false⟩
/-- A state that is such a one by new numbers. -/
def RenTo (objs : List Obj) (env : List (Nat × E)) (xs : List (Nat × V)) (s : St) : Prop :=
  ∃ ids, renSt ids objs env s = true ∧ ∀ p ∈ xs, lget s.env p.1 = some (.v p.2)
theorem lget_app (l m : List (Nat × E)) (t : Nat) : lget (l ++ m) t = match lget l t with | some e => some e | none => lget m t := by
  induction l with
  | nil => rfl
  | cons p r ih =>
    rw [List.cons_append, lget_cons, lget_cons]
    split
    · rfl
    · exact ih
theorem lget_mem {l : List (Nat × E)} {t : Nat} {e : E} (h : lget l t = some e) : (t, e) ∈ l := by
  induction l with
  | nil => cases h
  | cons p r ih =>
    rw [lget_cons] at h
    split at h
    · rename_i hp
      cases h
      subst hp
      exact List.mem_cons_self ..
    · exact List.mem_cons_of_mem _ (ih h)
theorem renTo_ok (h : Sim false nt w0 g0 w g bx s a) (h0 : g0.nx = 0) {objs : List Obj} {env : List (Nat × E)} {xs : List (Nat × V)} (hr : RenTo objs env xs s) (hx : ∀ p ∈ xs, FreeV p.2) :
    ∃ g' bx', Sim false nt w0 g0 w g' bx' (stX objs env xs) a := by
  obtain ⟨ids, hr, hxs⟩ := hr
  unfold renSt at hr
  simp only [Bool.and_eq_true] at hr
  obtain ⟨hd, hn, ho, he⟩ := hr
  obtain ⟨hlen, _⟩ := renObjs_get ho
  have := gcx_ok h h0 (ids := ids) (objs := objs) (env := env ++ xsE xs) hd hn ho fun t e hte => by
    rw [lget_app] at hte
    cases hl : lget env t with
    | some y =>
      rw [hl] at hte
      cases hte
      obtain ⟨e0, h1, h2⟩ := renEnv_get he t e hl
      exact ⟨e0, h1, .inl h2⟩
    | none =>
      rw [hl] at hte
      have hm := lget_mem hte
      unfold xsE at hm
      rw [mapR_eq, List.mem_map] at hm
      obtain ⟨p, hp, hpe⟩ := hm
      cases hpe
      exact ⟨_, hxs p hp, .inr ⟨rfl, _, rfl, hx p hp⟩⟩
  obtain ⟨g', bx', h'⟩ := this
  refine ⟨g', bx', ?_⟩
  have e : stX objs env xs = stOf ids objs (env ++ xsE xs) false := by
    unfold stX stOf
    rw [appR_eq, lenR_eq, hlen]
  rw [e]
  exact h'

/-- What an evaluation comes to: by new numbers the state that is told, and these entries. -/
def chkN (r : CodeR) (ids : List Nat) (objs : List Obj) (env : List (Nat × E)) (ts : List Nat) : Option (List (Option E)) :=
  match r with
  | some (o, s) => match o with
    | .normal => match renSt ids objs env s with
      | true => some (mapR (lget s.env) ts)
      | false => none
    | _ => none
  | none => none
theorem chkN_some {r : CodeR} {ids : List Nat} {objs : List Obj} {env : List (Nat × E)} {xs : List (Nat × V)} (h : chkN r ids objs env (mapR (·.1) xs) = some (mapR (fun p => some (.v p.2)) xs)) : ∃ s, r = some (.normal, s) ∧ RenTo objs env xs s := by
  unfold chkN at h
  split at h
  · rename_i o s
    split at h
    · split at h
      · rename_i hr
        refine ⟨s, rfl, ids, hr, ?_⟩
        rw [mapR_eq, mapR_eq, mapR_eq] at h
        injection h with h
        clear hr
        induction xs with
        | nil => intro p hp; cases hp
        | cons x q ih =>
          simp only [List.map_cons, List.cons.injEq] at h
          intro p hp
          rcases List.mem_cons.1 hp with rfl | hp
          · exact h.1
          · exact ih h.2 p hp
      · cases h
    · cases h
  · cases h

/-- The first parts of code in a row, and the rest. -/
def takeC : Nat → ACode → ACode
  | n + 1, .seq a b => match n with
    | 0 => a
    | _ + 1 => .seq a (takeC n b)
  | _, c => c
def hasN : Nat → ACode → Bool
  | 0, _ => true
  | n + 1, .seq _ b => hasN n b
  | _, _ => false
def dropC : Nat → ACode → ACode
  | 0, c => c
  | n + 1, .seq _ b => dropC n b
  | _, c => c
end

/-! ### code, walked by its AIR form -/
section
variable {P : Program} {hn : Hint} {nt : Nat} {w0 : World} {g0 : G} {call : Caller} {ms : Meths}

/-- Whatever code has this AIR form comes, from such a state, to one as is said. -/
def CTo (P : Program) (hn : Hint) (nt : Nat) (w0 : World) (g0 : G) (A : ACode) (s : St) (R : Out → St → Prop) : Prop :=
  ∀ c, cCode P hn nt c = A → ∀ w g bx a, Sim false nt w0 g0 w g bx s a → ∀ Q : Exit → Act → World → Prop,
    (∀ o s' w1 g1 bx1 a1, R o s' → Sim false nt w0 g0 w1 g1 bx1 s' a1 → Q o.exit' a1 w1) → c.wp P Q a w

variable {A B : ACode} {s s' : St} {o : Out} {R R' : Out → St → Prop}

theorem CTo.mono (h : CTo P hn nt w0 g0 A s R) (hr : ∀ o s', R o s' → R' o s') : CTo P hn nt w0 g0 A s R' :=
  fun c hc w g bx a hs Q hQ => h c hc w g bx a hs Q fun o s' w1 g1 bx1 a1 h1 h2 => hQ o s' w1 g1 bx1 a1 (hr o s' h1) h2
theorem CTo.ev (hcall : CallOk P call) (hms : MethsOk P ms) (hdraw : DrawOk P call ms) (lf : Nat) (h : evCode call ms lf A s = some (o, s')) (hr : R o s') : CTo P hn nt w0 g0 A s R := by
  rintro c rfl w g bx a hs Q hQ
  exact code_ok hcall hms hdraw hn lf c (.inl rfl) hs h fun w1 g1 bx1 a1 h1 => hQ o s' w1 g1 bx1 a1 hr h1
theorem CTo.ren (h0 : g0.nx = 0) {objs : List Obj} {env : List (Nat × E)} {xs : List (Nat × V)} (hr : RenTo objs env xs s) (hx : ∀ p ∈ xs, FreeV p.2) (h : CTo P hn nt w0 g0 A (stX objs env xs) R) : CTo P hn nt w0 g0 A s R := by
  rintro c hc w g bx a hs Q hQ
  obtain ⟨g', bx', hs'⟩ := renTo_ok hs h0 hr hx
  exact h c hc w g' bx' a hs' Q hQ
/-- An evaluation, told by new numbers. -/
theorem CTo.evN (hcall : CallOk P call) (hms : MethsOk P ms) (hdraw : DrawOk P call ms) (lf : Nat) {ids : List Nat} {objs : List Obj} {env : List (Nat × E)} {xs : List (Nat × V)}
    (h : chkN (evCode call ms lf A s) ids objs env (mapR (·.1) xs) = some (mapR (fun p => some (.v p.2)) xs)) (hR : ∀ s', RenTo objs env xs s' → R .normal s') : CTo P hn nt w0 g0 A s R := by
  obtain ⟨s', h1, h2⟩ := chkN_some h
  exact CTo.ev hcall hms hdraw lf h1 (hR s' h2)

theorem cRegion_shape (id : Nat) (ops : Array Oper) (d : Bool) : (∃ l k q, cRegion P hn nt id ops d = .region l k q) ∨ cRegion P hn nt id ops d = .stuck := by
  unfold cRegion
  dsimp only
  split
  · split
    · exact .inl ⟨_, _, _, rfl⟩
    · exact .inr rfl
  · exact .inl ⟨_, _, _, rfl⟩
theorem cCode_seq {c : Code} (h : cCode P hn nt c = .seq A B) : ∃ x y, c = .seq x y ∧ cCode P hn nt x = A ∧ cCode P hn nt y = B := by
  cases c with
  | seq x y => injection h with h1 h2; exact ⟨x, y, rfl, h1, h2⟩
  | region id ops d =>
    have h' : cRegion P hn nt id ops d = .seq A B := h
    rcases cRegion_shape (P := P) (hn := hn) (nt := nt) id ops d with ⟨l, k, q, e⟩ | e <;> rw [e] at h' <;> cases h'
  | _ => cases h
theorem cCode_block {c : Code} {i : Nat} (h : cCode P hn nt c = .block i A) : ∃ x, c = .block i x ∧ cCode P hn nt x = A := by
  cases c with
  | block j x => injection h with h1 h2; subst h1; exact ⟨x, rfl, h2⟩
  | region id ops d =>
    have h' : cRegion P hn nt id ops d = .block i A := h
    rcases cRegion_shape (P := P) (hn := hn) (nt := nt) id ops d with ⟨l, k, q, e⟩ | e <;> rw [e] at h' <;> cases h'
  | _ => cases h
theorem cCode_loop {c : Code} (h : cCode P hn nt c = .loop A) : ∃ x, c = .loop x ∧ cCode P hn nt x = A := by
  cases c with
  | loop x => injection h with h1; exact ⟨x, rfl, h1⟩
  | region id ops d =>
    have h' : cRegion P hn nt id ops d = .loop A := h
    rcases cRegion_shape (P := P) (hn := hn) (nt := nt) id ops d with ⟨l, k, q, e⟩ | e <;> rw [e] at h' <;> cases h'
  | _ => cases h

/-- What comes behind the first of two. -/
def thenR (B : Out → St → Prop) (R : Out → St → Prop) : Out → St → Prop
  | .normal, s => B .normal s
  | o, s => R o s
theorem CTo.seq (h : CTo P hn nt w0 g0 A s (thenR (fun _ s' => CTo P hn nt w0 g0 B s' R) R)) : CTo P hn nt w0 g0 (.seq A B) s R := by
  intro c hc w g bx a hs Q hQ
  obtain ⟨x, y, rfl, hx, hy⟩ := cCode_seq hc
  refine wp_seq (h x hx w g bx a hs _ fun o s' w1 g1 bx1 a1 h1 h2 => ?_)
  cases o with
  | normal => exact h1 y hy w1 g1 bx1 a1 h2 Q hQ
  | exit id => exact hQ (.exit id) s' w1 g1 bx1 a1 h1 h2
  | ret => exact hQ .ret s' w1 g1 bx1 a1 h1 h2
/-- The first parts are evaluated. -/
theorem CTo.cut (hcall : CallOk P call) (hms : MethsOk P ms) (hdraw : DrawOk P call ms) (lf : Nat) : ∀ (n : Nat) {A : ACode} {s s' : St}, hasN (n + 1) A = true → evCode call ms lf (takeC (n + 1) A) s = some (.normal, s') →
    CTo P hn nt w0 g0 (dropC (n + 1) A) s' R → CTo P hn nt w0 g0 A s R
  | 0, .seq a b, s, s', _, h, hB => CTo.seq (CTo.ev hcall hms hdraw lf (show evCode call ms lf a s = some (.normal, s') from h) (by exact hB))
  | n + 1, .seq a b, s, s', hne, h, hB => by
    have h' : seqR (evCode call ms lf a s) (evCode call ms lf (takeC (n + 1) b)) = some (.normal, s') := h
    unfold seqR at h'
    split at h'
    · rename_i o1 s1 h1
      split at h'
      · exact CTo.seq (CTo.ev hcall hms hdraw lf h1 (CTo.cut hcall hms hdraw lf n (show hasN (n + 1) b = true from hne) h' hB))
      · rename_i hno
        cases h'
        exact absurd rfl hno
    · cases h'
theorem CTo.cutN (hcall : CallOk P call) (hms : MethsOk P ms) (hdraw : DrawOk P call ms) (lf n : Nat) (h0 : g0.nx = 0) {ids : List Nat} {objs : List Obj} {env : List (Nat × E)} {xs : List (Nat × V)} (hne : hasN (n + 1) A = true)
    (h : chkN (evCode call ms lf (takeC (n + 1) A) s) ids objs env (mapR (·.1) xs) = some (mapR (fun p => some (.v p.2)) xs)) (hx : ∀ p ∈ xs, FreeV p.2) (hB : CTo P hn nt w0 g0 (dropC (n + 1) A) (stX objs env xs) R) : CTo P hn nt w0 g0 A s R := by
  obtain ⟨s', h1, h2⟩ := chkN_some h
  exact CTo.cut hcall hms hdraw lf n hne h1 (CTo.ren h0 h2 hx hB)
def blockQ (i : Nat) (R : Out → St → Prop) : Out → St → Prop
  | .exit j, s => if j = i then R .normal s else R (.exit j) s
  | o, s => R o s
theorem CTo.block {i : Nat} (h : CTo P hn nt w0 g0 A s (blockQ i R)) : CTo P hn nt w0 g0 (.block i A) s R := by
  intro c hc w g bx a hs Q hQ
  obtain ⟨x, rfl, hx⟩ := cCode_block hc
  refine wp_block (h x hx w g bx a hs _ fun o s' w1 g1 bx1 a1 h1 h2 => ?_)
  cases o with
  | normal => exact hQ .normal s' w1 g1 bx1 a1 h1 h2
  | ret => exact hQ .ret s' w1 g1 bx1 a1 h1 h2
  | exit j =>
    show Exit.inBlock i Q (.exit j) a1 w1
    have h1' : if j = i then R .normal s' else R (.exit j) s' := h1
    by_cases hj : j = i
    · subst hj
      rw [if_pos rfl] at h1'
      simp only [Exit.inBlock, if_true]
      exact hQ .normal s' w1 g1 bx1 a1 h1' h2
    · rw [if_neg hj] at h1'
      simp only [Exit.inBlock, hj, if_false]
      exact hQ (.exit j) s' w1 g1 bx1 a1 h1' h2
theorem CTo.loop (I : Nat → St → Prop) {n : Nat} (hi : I n s) (round : ∀ n s, I n s → ∃ m, n = m + 1 ∧ CTo P hn nt w0 g0 A s (thenR (fun _ s' => I m s') R)) : CTo P hn nt w0 g0 (.loop A) s R := by
  intro c hc w g bx a hs Q hQ
  obtain ⟨x, rfl, hx⟩ := cCode_loop hc
  refine wp_loop_n (fun n a w => ∃ g bx s, Sim false nt w0 g0 w g bx s a ∧ I n s) ⟨g, bx, s, hs, hi⟩ fun n a w hI => ?_
  obtain ⟨g, bx, s, hs, hi⟩ := hI
  obtain ⟨m, rfl, hr⟩ := round n s hi
  refine ⟨m, rfl, hr x hx w g bx a hs _ fun o s' w1 g1 bx1 a1 h1 h2 => ?_⟩
  cases o with
  | normal => exact ⟨g1, bx1, s', h2, h1⟩
  | exit id => exact hQ (.exit id) s' w1 g1 bx1 a1 h1 h2
  | ret => exact hQ .ret s' w1 g1 bx1 a1 h1 h2

/-- A function without deferred calls, walked so. -/
theorem calls_of_cto {f : Nat} {fn : Func} {af : AFunc} (hf : P.funcs[f]? = some fn) (hc : cFunc P hn fn = some af) {w : World} {g : G} {xs : List V} {hp : Heap} {nx : Nat} {args : Array Value} (hi : Inv w g hp nx) (hr : Reps g xs args.toList)
    {v : V} (h : CTo P hn fn.ntmps w g af.body ⟨args0 xs 0, hp, nx, [], false⟩ fun o s' => (o = .normal ∨ o = .ret) ∧ s'.dfs = [] ∧ ∃ hp' nx', fin1 af.frz s' (evRes s' af.results) = some (v, hp', nx')) :
    Calls P f args w fun
      | .returned u, w' => ∃ g', Rep g' v u ∧ Step w g w' g'
      | _, _ => False := by
  obtain ⟨c, rs, hb, hrs, rfl⟩ := cFunc_some hc
  refine calls_of_wp_defers hf hb ?_
  have h0 := sim_start (rc := false) (n := fn.ntmps) hi hr
  refine h c rfl w g _ _ h0 _ fun o s' w1 g1 bx1 a1 h1 h2 => ?_
  obtain ⟨ho, hd, hp', nx', hfin⟩ := h1
  have hdd := h2.dfs
  rw [hd] at hdd
  have hla : Leaves P fn a1.tmps (fun
      | .returned u, w' => ∃ g', Rep g' v u ∧ Step w g w' g'
      | _, _ => False) a1.defers .returning w1 := by
    cases hda : a1.defers with
    | cons d m => rw [hda] at hdd; cases hdd
    | nil =>
      obtain ⟨u, hrun, g', h3, h4, h5⟩ := fin1_ok h2 hrs hfin
      exact ⟨u, hrun, g', h3, h5⟩
  rcases ho with rfl | rfl
  · exact hla
  · exact hla
end
end
end Go.Air
