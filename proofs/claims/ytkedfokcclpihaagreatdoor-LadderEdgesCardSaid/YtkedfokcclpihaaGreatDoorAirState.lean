/- AIR: the state of a frame, what a step leaves, what is put into a temporary, freezing. -/
import Derived.Test.YtkedfokcclpihaaGreatDoorAirOps
import Derived.Laws.IdiomCopy
import Derived.Laws.CopyRow
set_option linter.unusedSectionVars false
set_option linter.unusedSimpArgs false
set_option linter.unusedVariables false
set_option linter.unnecessarySimpa false
namespace Go.Air
variable [GL]

/-- A deferred call. -/
def DefAt (g : G) (p : V × List V) (d : Deferred) : Prop :=
  ∃ k a b A B X, p.1 = .fn (.func k) a b ∧ d.target = .fn (.func k) B ∧ d.args = A ++ X ∧ Reps g a A.toList ∧ Reps g b B.toList ∧ Reps g p.2 X.toList
inductive DefsAt (g : G) : List (V × List V) → List Deferred → Prop where
  | nil : DefsAt g [] []
  | cons {p : V × List V} {d : Deferred} {l : List (V × List V)} {m : List Deferred} (h : DefAt g p d) (r : DefsAt g l m) : DefsAt g (p :: l) (d :: m)
theorem DefsAt.ext {g g' : G} (h : Ext g g') {l : List (V × List V)} {m : List Deferred} (d : DefsAt g l m) : DefsAt g' l m := by
  induction d with
  | nil => exact .nil
  | cons hd _ ih =>
    obtain ⟨k, a, b, A, B, X, h1, h2, h3, ha, hb, hx⟩ := hd
    exact .cons ⟨k, a, b, A, B, X, h1, h2, h3, Reps.ext h a _ ha, Reps.ext h b _ hb, Reps.ext h _ _ hx⟩ ih

/-- A frame's state: the world behind the abstract machine's. -/
structure Sim (rc : Bool) (nt : Nat) (w0 : World) (g0 : G) (w : World) (g : G) (bx : Nat → Option Nat) (s : St) (a : Act) : Prop where
  inv : Inv w g s.hp s.nx
  env : Env w g bx s.env a.tmps
  size : nt ≤ a.tmps.size
  dfs : DefsAt g s.dfs a.defers
  step : Step w0 g0 w g
  own : ∀ t b, bx t = some b → w0.heap.size ≤ b
  rcf : s.rc = rc

section
variable {rc : Bool} {nt : Nat} {w0 : World} {g0 : G} {w : World} {g : G} {bx : Nat → Option Nat} {s s' : St} {a : Act}

theorem lget_cons_same {α : Type} (l : List (Nat × α)) (i : Nat) (x : α) : lget ((i, x) :: l) i = some x := by rw [lget_cons]; simp
theorem lget_cons_ne {α : Type} (l : List (Nat × α)) {i j : Nat} (x : α) (h : i ≠ j) : lget ((i, x) :: l) j = lget l j := by rw [lget_cons]; simp [h]

/-- What an operation's value is, a new block too. -/
def EV (w0 : World) (w : World) (g : G) (bx : Nat → Option Nat) (env : List (Nat × E)) (v : Value) : E → Prop
  | .box cs => ∃ b, v = .pointer (some ⟨b, 0, none⟩) ∧ BoxAt w g b cs ∧ w0.heap.size ≤ b ∧ (∀ t, bx t ≠ some b) ∧ (∀ id p, g.hp id = some p → p.blk ≠ b) ∧ ∀ c o, g.L c b o = none
  | e => EnvAt w g bx env v 0 e

theorem noLp_ok {d : Nat} : ∀ {env : List (Nat × E)}, noLp d env = true → ∀ t off, lget env t ≠ some (.lp d off)
  | [], _, t, off => by simp [lget]
  | (i, e) :: r, h, t, off => by
    have h' : E.rec (motive := fun _ => Bool) (fun _ => noLp d r) (fun _ => noLp d r) (fun t _ => boolCase (Nat.beq t d) false (noLp d r)) e = true := h
    rw [lget_cons]
    cases e with
    | v x => split; simp; exact noLp_ok h' t off
    | box cs => split; simp; exact noLp_ok h' t off
    | lp u o =>
      have h2 : boolCase (Nat.beq u d) false (noLp d r) = true := h'
      rw [boolCase_eq] at h2
      split at h2
      · cases h2
      · rename_i hne
        split
        · intro heq
          cases heq
          simp at hne
        · exact noLp_ok h2 t off

/-- A value that is put where a block may have been. -/
theorem Env.put {d : Nat} {e : E} {v : Value} (he : Env w g bx s.env a.tmps) (hd : d < a.tmps.size) (hv : EnvAt w g bx s.env v 0 e) (hne : ∀ cs, e ≠ .box cs) :
    Env w g (fun t => if t = d then none else bx t) ((d, e) :: s.env) (a.put (some d) v).tmps := by
  have hbx : ∀ t b, (if t = d then none else bx t) = some b → t ≠ d ∧ bx t = some b := fun t b h => by
    by_cases ht : t = d
    · rw [if_pos ht] at h; cases h
    · rw [if_neg ht] at h; exact ⟨ht, h⟩
  have lpk : ∀ u off v', (∃ b, v' = Value.pointer (some ⟨b, off, none⟩) ∧ ∀ cs, lget s.env u = some (.box cs) → bx u = some b) →
      ∃ b, v' = Value.pointer (some ⟨b, off, none⟩) ∧ ∀ cs, lget ((d, e) :: s.env) u = some (.box cs) → (if u = d then none else bx u) = some b := by
    rintro u off v' ⟨b, h1, h2⟩
    refine ⟨b, h1, fun cs hc => ?_⟩
    by_cases hu : d = u
    · subst hu
      rw [lget_cons_same] at hc
      cases hc
      exact absurd rfl (hne cs)
    · rw [lget_cons_ne _ _ hu] at hc
      rw [if_neg (Ne.symm hu)]
      exact h2 cs hc
  refine ⟨fun t x hx => ?_, fun t b h => ?_, fun t u b h1 h2 => ?_, fun t b id p h1 h2 => ?_, fun t b c o h => ?_⟩
  · by_cases ht : d = t
    · subst ht
      rw [lget_cons_same] at hx
      cases hx
      have hget : (a.put (some d) v).tmps.getD d undef = v := by simp [Act.put, hd]
      rw [hget]
      cases e with
      | v x => exact hv
      | box cs => exact absurd rfl (hne cs)
      | lp u off => exact lpk u off v hv
    · rw [lget_cons_ne _ _ ht] at hx
      have hget : (a.put (some d) v).tmps.getD t undef = a.tmps.getD t undef := by simp [Act.put, Array.getElem?_setIfInBounds_ne ht]
      rw [hget]
      have h := he.at_ t x hx
      cases x with
      | v x => exact h
      | box cs =>
        obtain ⟨b, h1, h2, h3⟩ := h
        exact ⟨b, (if_neg (Ne.symm ht)).trans h1, h2, h3⟩
      | lp u off => exact lpk u off _ h
  · obtain ⟨ht, hb⟩ := hbx t b h
    obtain ⟨cs, hc⟩ := he.box t b hb
    exact ⟨cs, by rw [lget_cons_ne _ _ (Ne.symm ht)]; exact hc⟩
  · exact he.inj t u b (hbx t b h1).2 (hbx u b h2).2
  · exact he.hp t b id p (hbx t b h1).2 h2
  · exact he.unl t b c o (hbx t b h).2

theorem Env.putBox {d : Nat} {cs : List V} {v : Value} {b : Nat} (he : Env w g bx s.env a.tmps) (hd : d < a.tmps.size) (hl : noLp d s.env = true) (hv : v = .pointer (some ⟨b, 0, none⟩)) (hb : BoxAt w g b cs)
    (hf : ∀ t, bx t ≠ some b) (hhp : ∀ id p, g.hp id = some p → p.blk ≠ b) (hul : ∀ c o, g.L c b o = none) :
    Env w g (fun t => if t = d then some b else bx t) ((d, .box cs) :: s.env) (a.put (some d) v).tmps := by
  refine ⟨fun t x hx => ?_, fun t b' h => ?_, fun t u b' h1 h2 => ?_, fun t b' id p h1 h2 => ?_, fun t b' c o h => ?_⟩
  · by_cases ht : d = t
    · subst ht
      rw [lget_cons_same] at hx
      cases hx
      have hget : (a.put (some d) v).tmps.getD d undef = v := by simp [Act.put, hd]
      rw [hget]
      exact ⟨b, by simp, hv, hb⟩
    · rw [lget_cons_ne _ _ ht] at hx
      have hget : (a.put (some d) v).tmps.getD t undef = a.tmps.getD t undef := by simp [Act.put, Array.getElem?_setIfInBounds_ne ht]
      rw [hget]
      have h := he.at_ t x hx
      cases x with
      | v x => exact h
      | box cs =>
        obtain ⟨b', h1, h2, h3⟩ := h
        exact ⟨b', (if_neg (Ne.symm ht)).trans h1, h2, h3⟩
      | lp u off =>
        obtain ⟨b', h1, h2⟩ := h
        have hu : u ≠ d := fun hu => by subst hu; exact noLp_ok hl t off hx
        refine ⟨b', h1, fun cs hc => ?_⟩
        rw [lget_cons_ne _ _ (Ne.symm hu)] at hc
        exact (if_neg hu).trans (h2 cs hc)
  · by_cases ht : t = d
    · subst ht; exact ⟨cs, lget_cons_same _ _ _⟩
    · rw [if_neg ht] at h
      obtain ⟨cs', hc⟩ := he.box t b' h
      exact ⟨cs', by rw [lget_cons_ne _ _ (Ne.symm ht)]; exact hc⟩
  · by_cases ht : t = d
    · by_cases hu : u = d
      · rw [ht, hu]
      · rw [if_pos ht] at h1; cases h1
        rw [if_neg hu] at h2
        exact absurd h2 (hf u)
    · rw [if_neg ht] at h1
      by_cases hu : u = d
      · rw [if_pos hu] at h2; cases h2
        exact absurd h1 (hf t)
      · rw [if_neg hu] at h2
        exact he.inj t u b' h1 h2
  · by_cases ht : t = d
    · rw [if_pos ht] at h1; cases h1; exact hhp id p h2
    · rw [if_neg ht] at h1; exact he.hp t b' id p h1 h2
  · by_cases ht : t = d
    · rw [if_pos ht] at h; cases h; exact hul c o
    · rw [if_neg ht] at h; exact he.unl t b' c o h

theorem put_size (a : Act) (d : Option Nat) (v : Value) : (a.put d v).tmps.size = a.tmps.size := by cases d <;> simp [Act.put]
theorem put_defers (a : Act) (d : Option Nat) (v : Value) : (a.put d v).defers = a.defers := by cases d <;> rfl

/-- What an operation gave is put away. -/
theorem putR_ok {d : Option Nat} {e : E} {v : Value} (h : Sim rc nt w0 g0 w g bx s a) (hd : ∀ i, d = some i → i < nt) (hv : EV w0 w g bx s.env v e) (hp : putR d e s = some s') :
    ∃ bx', Sim rc nt w0 g0 w g bx' s' (a.put d v) := by
  have hsz : ∀ i, d = some i → i < a.tmps.size := fun i hi => Nat.lt_of_lt_of_le (hd i hi) h.size
  have plain : ∀ e : E, EnvAt w g bx s.env v 0 e → (∀ cs, e ≠ .box cs) → s.put d e = s' → ∃ bx', Sim rc nt w0 g0 w g bx' s' (a.put d v) := by
    intro e hv hne hp
    subst hp
    cases d with
    | none => exact ⟨bx, h⟩
    | some i =>
      refine ⟨_, h.inv, Env.put h.env (hsz i rfl) hv hne, by rw [put_size]; exact h.size, by rw [put_defers]; exact h.dfs, h.step, fun t b hb => ?_, h.rcf⟩
      by_cases ht : t = i
      · rw [if_pos ht] at hb; cases hb
      · rw [if_neg ht] at hb; exact h.own t b hb
  cases e with
  | v x =>
    have hp' : some (s.put d (.v x)) = some s' := hp
    exact plain (.v x) hv (by simp) (by simpa using hp')
  | lp u off =>
    have hp' : some (s.put d (.lp u off)) = some s' := hp
    exact plain (.lp u off) hv (by simp) (by simpa using hp')
  | box cs =>
    have hp' : putB d cs s = some s' := hp
    cases d with
    | none => cases hp'
    | some i =>
      obtain ⟨hl, h2⟩ := gd_some hp'
      cases h2
      obtain ⟨b, hvb, hbox, how, hf, hhp, hul⟩ := hv
      refine ⟨_, h.inv, Env.putBox h.env (hsz i rfl) hl hvb hbox hf hhp hul, by rw [put_size]; exact h.size, by rw [put_defers]; exact h.dfs, h.step, fun t b' hb => ?_, h.rcf⟩
      by_cases ht : t = i
      · rw [if_pos ht] at hb; cases hb; exact how
      · rw [if_neg ht] at hb; exact h.own t b' hb

/-! ### the ghost grows -/
theorem MapsAt.ext {g g' : G} (h : Ext g g') {es : List (V × V)} {l : List MapEntry} (m : MapsAt g es l) : MapsAt g' es l := by
  induction m with
  | nil => exact .nil
  | cons hk hx _ ih => exact .cons (Rep.ext h _ _ hk) (Rep.ext h _ _ hx) ih
theorem ObjAt.ext {g g' : G} (h : Ext g g') {p : Pl} {o : Obj} (hb : w.heap[p.blk]? = w.heap[p.blk]?) (x : ObjAt w g p o) : ObjAt w g' p o := by
  cases o with
  | cells t z cs =>
    obtain ⟨h1, arr, fr, h2, h3, h4, h5, h6, h7⟩ := x
    exact ⟨h1, arr, fr, h2, h3, h4, h5, h6, h7.ext h⟩
  | map es =>
    obtain ⟨ents, clk, h1, h2⟩ := x
    exact ⟨ents, clk, h1, h2.ext h⟩
theorem ObjAt.move {w' : World} {g g' : G} (h : Ext g g') {p : Pl} {o : Obj} (hb : w'.heap[p.blk]? = w.heap[p.blk]?) (x : ObjAt w g p o) : ObjAt w' g' p o := by
  cases o with
  | cells t z cs =>
    obtain ⟨h1, arr, fr, h2, h3, h4, h5, h6, h7⟩ := x
    exact ⟨h1, arr, fr, hb.trans h2, h3, h4, h5, h6, h7.ext h⟩
  | map es =>
    obtain ⟨ents, clk, h1, h2⟩ := x
    exact ⟨ents, clk, hb.trans h1, h2.ext h⟩
theorem ObjAt.lt {p : Pl} {o : Obj} (x : ObjAt w g p o) : p.blk < w.heap.size := by
  cases o with
  | cells t z cs => obtain ⟨_, _, _, h, _⟩ := x; exact (Array.getElem?_eq_some_iff.1 h).1
  | map es => obtain ⟨_, _, h, _⟩ := x; exact (Array.getElem?_eq_some_iff.1 h).1
theorem Inv.hp_lt {h : Heap} {nx : Nat} (hi : Inv w g h nx) {id : Nat} {p : Pl} (hp : g.hp id = some p) : p.blk < w.heap.size := by
  obtain ⟨o, ho⟩ := hi.dom id p hp
  obtain ⟨_, q, hq, hat⟩ := hi.obj id o ho
  rw [hp] at hq; cases hq
  exact hat.lt
theorem Inv.lock_lt {h : Heap} {nx : Nat} (hi : Inv w g h nx) {c : Bool} {b o : Nat} {y : Value} (hl : g.L c b o = some y) : b < w.heap.size := by
  have := hi.lock c b o y hl
  unfold World.cell? at this
  split at this
  · rename_i h; exact (Array.getElem?_eq_some_iff.1 h).1
  · cases this
theorem Env.bx_lt {env : List (Nat × E)} {tmps : Array Value} (he : Env w g bx env tmps) {t b : Nat} (h : bx t = some b) : b < w.heap.size := by
  obtain ⟨cs, hc⟩ := he.box t b h
  obtain ⟨b', hb', _, hbox⟩ := he.at_ t _ hc
  rw [h] at hb'; cases hb'
  exact hbox.lt

/-- The state behind a step of the world and the ghost that leaves the environment. -/
theorem Sim.go {w' : World} {g' : G} {hp : Heap} {nx : Nat} (h : Sim rc nt w0 g0 w g bx s a) (st : Step w g w' g') (hi : Inv w' g' hp nx) : Sim rc nt w0 g0 w' g' bx ⟨s.env, hp, nx, s.dfs, s.rc⟩ a :=
  ⟨hi, h.env.step st, h.size, h.dfs.ext st.ext, h.step.trans st, h.own, h.rcf⟩

/-! ### freezing -/
/-- The ghost behind a freezing: the object is gone, its cells stay. -/
def G.frz (g : G) (w : World) (id b : Nat) : G :=
  ⟨fun c b' o => if b' = b ∧ c = true then w.cell? ⟨b', o, none⟩ else g.L c b' o, fun j => if j = id then none else g.hp j, g.nx⟩
theorem frz_inv {h : Heap} {nx id : Nat} {p : Pl} (hi : Inv w g h nx) (hp : g.hp id = some p) : Inv w (g.frz w id p.blk) (hdel h id) nx ∧ Step w g w (g.frz w id p.blk) := by
  have hext : Ext g (g.frz w id p.blk) := by
    refine ⟨fun c b o y hl => ?_, fun j q _ hj => ?_, Nat.le_refl _⟩
    · show (if b = p.blk ∧ c = true then _ else _) = _
      split
      · rename_i hb
        rw [hb.1, hi.unl id p c o hp] at hl; cases hl
      · exact hl
    · have hj' : (if j = id then none else g.hp j) = some q := hj
      split at hj'
      · cases hj'
      · exact hj'
  have hpj : ∀ j q, (g.frz w id p.blk).hp j = some q → j ≠ id ∧ g.hp j = some q := fun j q hj => by
    have hj' : (if j = id then none else g.hp j) = some q := hj
    split at hj'
    · cases hj'
    · rename_i hne; exact ⟨hne, hj'⟩
  refine ⟨⟨hi.nxe, fun c b o y hl => ?_, fun j o ho => ?_, fun j q hj => ?_, fun i j q r h1 h2 h3 => hi.inj i j q r (hpj i q h1).2 (hpj j r h2).2 h3, fun j q c o hj => ?_, GL.mono _ _ hext.L hi.glob⟩,
    ⟨rfl, rfl, rfl, Nat.le_refl _, hext, fun _ _ _ => rfl, fun j q hj => .inr ⟨j, q, (hpj j q hj).2, rfl⟩, fun c b o y hl => ?_⟩⟩
  · have hl' : (if b = p.blk ∧ c = true then w.cell? ⟨b, o, none⟩ else g.L c b o) = some y := hl
    split at hl'
    · exact hl'
    · exact hi.lock c b o y hl'
  · rw [hget_hdel] at ho
    split at ho
    · cases ho
    · rename_i hne
      obtain ⟨h1, q, hq, hat⟩ := hi.obj j o ho
      refine ⟨h1, q, ?_, hat.move hext rfl⟩
      show (if j = id then none else g.hp j) = some q
      rw [if_neg (by first | exact hne | exact Ne.symm hne)]; exact hq
  · obtain ⟨hne, hq⟩ := hpj j q hj
    obtain ⟨o, ho⟩ := hi.dom j q hq
    refine ⟨o, ?_⟩
    rw [hget_hdel, if_neg (by first | exact hne | exact Ne.symm hne)]
    exact ho
  · obtain ⟨hne, hq⟩ := hpj j q hj
    show (if q.blk = p.blk ∧ c = true then _ else _) = _
    rw [if_neg fun h => hne (hi.inj j id q p hq hp h.1)]
    exact hi.unl j q c o hq
  · have hl' : (if b = p.blk ∧ c = true then w.cell? ⟨b, o, none⟩ else g.L c b o) = some y := hl
    split at hl'
    · rename_i hb; exact .inr (.inr ⟨id, p, hp, hb.1.symm⟩)
    · exact .inl hl'
end
end Go.Air
