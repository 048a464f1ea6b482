/- AIR: freezing, literals of slices. -/
import Derived.Test.YtkedfokcclpihaaGreatDoorAirState
import Derived.Laws.MakeOwn
import Derived.Deep.AppendSrc
import Derived.ArgAppend
import Derived.Great.BuildSlice
set_option linter.unusedSectionVars false
set_option linter.unusedSimpArgs false
set_option linter.unusedVariables false
set_option linter.unnecessarySimpa false
namespace Go.Air
variable [GL]

section
variable {rc : Bool} {nt : Nat} {w0 : World} {g0 : G} {w : World} {g : G} {bx : Nat → Option Nat} {s s' : St} {a : Act}

theorem cells_one {x : V} {y : Value} (h : Rep g x y) (hc : cellV y) : x.cells = [x] ∧ y.cells = #[y] := by
  refine ⟨?_, by cases y <;> first | rfl | cases hc⟩
  cases x <;> first | rfl | skip
  simp only [Rep] at h
  obtain ⟨_, rfl, _⟩ := h
  cases hc

theorem chunk_length (sz : Nat) (agg : Bool) : ∀ (n : Nat) (cs : List V), (chunk sz agg n cs).length = n
  | 0, _ => rfl
  | n + 1, cs => by simp [chunk, chunk_length sz agg n]

theorem chunk_ok {sz : Nat} {agg : Bool} {b : Nat} (hone : oneOk agg sz = true) : ∀ (n o : Nat) (cs : List V) (ys : List Value), n * sz ≤ cs.length → Reps g cs ys → (∀ y ∈ ys, cellV y) → Locked g true b o ys →
    RepEls g true sz b o (chunk sz agg n cs)
  | 0, _, _, _, _, _, _, _ => by simp [chunk, RepEls]
  | n + 1, o, cs, ys, hn, hr, hc, hl => by
    have hn' : n * sz + sz ≤ cs.length := by rw [← Nat.succ_mul]; exact hn
    have hlen := hr.length
    simp only [chunk, RepEls]
    refine ⟨?_, ?_⟩
    · cases agg with
      | true =>
        refine ⟨.agg (ys.take sz).toArray, ?_, ?_, ?_, ?_, ?_⟩
        · simp only [elt, Rep, takeR_eq]
          exact ⟨_, rfl, by simpa using hr.take sz, fun y hy => hc y (List.mem_of_mem_take (by simpa using hy))⟩
        · simp [Value.cells, elt, V.cells, takeR_eq]; omega
        · simp [elt, V.cells, takeR_eq]; omega
        · intro y hy; exact hc y (List.mem_of_mem_take (by simpa [Value.cells] using hy))
        · intro j y hj
          have hj' : (ys.take sz)[j]? = some y := by simpa [Value.cells] using hj
          rw [List.getElem?_take] at hj'
          split at hj'
          · exact hl j y hj'
          · cases hj'
      | false =>
        have h1 : sz = 1 := Nat.eq_of_beq_eq_true hone
        subst h1
        cases cs with
        | nil => simp at hn'
        | cons x r =>
          simp only [Reps] at hr
          obtain ⟨y, q, rfl, hx, hq⟩ := hr
          have hcy := hc y (by simp)
          obtain ⟨h2, h3⟩ := cells_one hx hcy
          refine ⟨y, hx, ?_, ?_, ?_, ?_⟩
          · show y.cells.size = x.cells.length
            rw [h2, h3]; rfl
          · show x.cells.length = 1
            rw [h2]; rfl
          · rw [h3]; intro z hz; simp at hz; subst hz; exact hcy
          · rw [h3]; intro j z hj
            cases j with
            | zero => simp at hj; subst hj; exact hl 0 y (by simp)
            | succ j => simp at hj
    · rw [dropR_eq]
      refine chunk_ok hone n (o + sz) (cs.drop sz) (ys.drop sz) (by rw [List.length_drop]; omega) (hr.drop sz) (fun y hy => hc y (List.mem_of_mem_drop hy)) fun j y hj => ?_
      rw [List.getElem?_drop] at hj
      rw [Nat.add_assoc]
      exact hl _ y hj

theorem frz1_ok (h : Sim rc nt w0 g0 w g bx s a) {x x' : V} {v : Value} {sz : Nat} {agg : Bool} (hr : Rep g x v) (hf : s.frz1 sz agg x = some (x', s')) :
    ∃ g', Sim rc nt w0 g0 w g' bx s' a ∧ Ext g g' ∧ Rep g' x' v ∧ s'.env = s.env ∧ (∀ j p, g'.hp j = some p → g.hp j = some p) ∧
      (∀ b, (∀ t, bx t ≠ some b) → True) ∧ ∀ c b o, (∀ j p, g.hp j = some p → p.blk ≠ b) → g'.L c b o = g.L c b o := by
  unfold St.frz1 at hf
  split at hf
  · cases hf
    refine ⟨g, h, Ext.refl g, ?_, rfl, fun _ _ h => h, fun _ _ => trivial, fun _ _ _ _ => rfl⟩
    simp only [Rep] at hr ⊢
    exact ⟨none, 0, 0, 0, hr, Nat.le_refl _, fun h => absurd rfl h, trivial⟩
  · cases hf
    exact ⟨g, h, Ext.refl g, hr, rfl, fun _ _ h => h, fun _ _ => trivial, fun _ _ _ _ => rfl⟩
  · rename_i id off n
    split at hf
    · rename_i cs hcs
      obtain ⟨h1, h2⟩ := gd_some hf
      obtain ⟨h1, h3⟩ := and_le h1
      have h3 := Nat.le_of_ble_eq_true h3
      rw [lenR_eq] at h3
      cases h2
      cases ho : hget s.hp id with
      | none => rw [ho] at hcs; cases hcs
      | some ob =>
        rw [ho] at hcs
        cases ob with
        | map es => cases hcs
        | cells t z ds =>
          cases hcs
          obtain ⟨_, p, hp, hesz, arr, fr, hb, hsf, hs, hc, hlen, hcells⟩ := h.inv.obj id _ ho
          obtain ⟨hinv, hstep⟩ := frz_inv h.inv hp
          simp only [Rep] at hr
          obtain ⟨hid, A, cap, rfl, hcap, hA, hpe⟩ := hr
          refine ⟨_, h.go hstep hinv, hstep.ext, ?_, rfl, ?_, fun _ _ => trivial, ?_⟩
          · have hrr := (Reps.of_cells hcells (by omega)).drop off
            have hrr' := Reps.ext hstep.ext _ _ hrr
            simp only [Rep]
            refine ⟨some A, cap, p.blk, p.base + off, by rw [chunk_length], by rw [chunk_length]; exact hcap, fun hne => ?_, ?_⟩
            · have hn : 0 < n := by
                rcases Nat.eq_zero_or_pos n with h0 | h0
                · subst h0; exact absurd rfl hne
                · exact h0
              obtain ⟨b, q, rfl, hq⟩ := hA (by omega)
              obtain ⟨rfl, rfl⟩ := hq p hp
              rfl
            · rw [dropR_eq]
              refine chunk_ok h1 n _ _ _ (by rw [List.length_drop]; omega) hrr' (fun y hy => hc y (List.mem_of_mem_drop (List.mem_of_mem_take (List.mem_of_mem_drop hy)))) fun j y hj => ?_
              show (if p.blk = p.blk ∧ true = true then w.cell? ⟨p.blk, p.base + off + j, none⟩ else _) = _
              rw [if_pos ⟨rfl, rfl⟩, cell_arr hb]
              rw [List.getElem?_drop, List.getElem?_take] at hj
              split at hj
              · rw [List.getElem?_drop, Array.getElem?_toList] at hj
                rw [Nat.add_assoc]; exact hj
              · cases hj
          · intro j q hj
            have hj' : (if j = id then none else g.hp j) = some q := hj
            split at hj'
            · cases hj'
            · exact hj'
          · intro c b o hn
            show (if b = p.blk ∧ c = true then _ else _) = _
            rw [if_neg fun hb => hn id p hp hb.1.symm]
    · cases hf
  · cases hf

theorem Reps.set {xs : List V} {ys : List Value} {i : Nat} {x : V} (h : Reps g xs ys) (hx : ∀ y, ys[i]? = some y → Rep g x y) : Reps g (xs.set i x) ys := by
  refine Reps.of_get (by rw [List.length_set, h.length]) fun j z hz => ?_
  rw [List.getElem?_set] at hz
  split at hz
  · rename_i hij
    subst hij
    split at hz
    · rename_i hlt
      cases hz
      have hlt' : i < ys.length := by rw [h.length]; exact hlt
      exact ⟨ys[i], List.getElem?_eq_getElem hlt', hx _ (List.getElem?_eq_getElem hlt')⟩
    · cases hz
  · exact h.get hz

theorem frzPath_ok : ∀ (fs : List (Option Nat × Nat × Bool)) {g : G} {s : St} {x : V} {v : Value}, Sim rc nt w0 g0 w g bx s a → Rep g x v → ∀ {x' : V} {s' : St}, frzPath fs x s = some (x', s') →
    ∃ g', Sim rc nt w0 g0 w g' bx s' a ∧ Ext g g' ∧ Rep g' x' v ∧ s'.env = s.env
  | [], g, s, x, v, h, hr, x', s', hf => by
    cases hf
    exact ⟨g, h, Ext.refl g, hr, rfl⟩
  | (none, sz, agg) :: r, g, s, x, v, h, hr, x', s', hf => by
    unfold frzPath at hf
    split at hf
    · rename_i y s1 hy
      obtain ⟨g1, h1, he1, hr1, henv1, _⟩ := frz1_ok h hr hy
      obtain ⟨g2, h2, he2, hr2, henv2⟩ := frzPath_ok r h1 hr1 hf
      exact ⟨g2, h2, he1.trans he2, hr2, henv2.trans henv1⟩
    · cases hf
  | (some i, sz, agg) :: r, g, s, x, v, h, hr, x', s', hf => by
    unfold frzPath at hf
    split at hf
    · rename_i cs
      split at hf
      · rename_i c hc
        rw [nthR_eq] at hc
        split at hf
        · rename_i c' s1 hy
          simp only [Rep] at hr
          obtain ⟨xs, rfl, hrs, hcell⟩ := hr
          obtain ⟨yv, hyv, hcr⟩ := hrs.get hc
          obtain ⟨g1, h1, he1, hr1, henv1, _⟩ := frz1_ok h hcr hy
          have hagg : Rep g1 (.agg (cs.set i c')) (.agg xs) := by
            simp only [Rep]
            exact ⟨xs, rfl, (Reps.ext he1 _ _ hrs).set fun y hy' => by rw [hyv] at hy'; cases hy'; exact hr1, hcell⟩
          obtain ⟨g2, h2, he2, hr2, henv2⟩ := frzPath_ok r h1 hagg hf
          exact ⟨g2, h2, he1.trans he2, hr2, henv2.trans henv1⟩
        · cases hf
      · cases hf
    · cases hf

/-- What an operation gave is frozen and put away. -/
theorem frzS_ok {d : Option Nat} {fs : List (Option Nat × Nat × Bool)} {e : E} {v : Value} {s1 : St} (h : Sim rc nt w0 g0 w g bx s1 a) (hd : ∀ i, d = some i → i < nt) (hv : EV w0 w g bx s1.env v e)
    (hp : frzS d fs (some (e, s1)) = some s') : ∃ g' bx', Sim rc nt w0 g0 w g' bx' s' (a.put d v) := by
  cases fs with
  | nil =>
    have hp' : putR d e s1 = some s' := hp
    obtain ⟨bx', h'⟩ := putR_ok h hd hv hp'
    exact ⟨g, bx', h'⟩
  | cons f fs =>
    have hp' : putO d (frzE (f :: fs) e s1) = some s' := hp
    unfold putO at hp'
    split at hp'
    · rename_i e2 s2 he2
      unfold frzE at he2
      split at he2
      · rename_i hnil; cases hnil
      · split at he2
        · rename_i x
          split at he2
          · rename_i x' s3 hx
            cases he2
            have hvr : Rep g x v := hv
            obtain ⟨g', h', hext, hr', henv⟩ := frzPath_ok _ h hvr hx
            obtain ⟨bx', h2⟩ := putR_ok h' hd (e := .v x') (v := v) hr' hp'
            exact ⟨g', bx', h2⟩
          · cases he2
        · cases he2
    · cases hp'
end
end Go.Air

/- AIR: operations that make memory. -/
namespace Go.Air
variable [GL]

section
variable {P : Program} {rc : Bool} {nt : Nat} {w0 : World} {g0 : G} {w w1 : World} {g : G} {bx : Nat → Option Nat} {s s' : St} {a : Act} {o : Oper}

/-- What an operation does that does not call. -/
def Acts (P : Program) (rc : Bool) (nt : Nat) (w0 : World) (g0 : G) (w : World) (bx : Nat → Option Nat) (a : Act) (o : Oper) (r : OpR) : Prop :=
  ∀ e s1, r = some (e, s1) → ∀ (next : Act → World → Prop) (Q : Exit → Act → World → Prop),
    (∀ v w1 g1 a1, Sim rc nt w0 g0 w1 g1 bx s1 a1 → EV w0 w1 g1 bx s1.env v e → next (a1.put o.dst v) w1) → o.wp P a w next Q

theorem Acts.none : Acts P rc nt w0 g0 w bx a o none := fun _ _ h => by cases h
theorem Acts.gd {b : Bool} {r : OpR} (h : b = true → Acts P rc nt w0 g0 w bx a o r) : Acts P rc nt w0 g0 w bx a o (Air.gd b r) := by
  cases b with
  | true => exact h rfl
  | false => exact Acts.none
theorem Acts.of_value {e : E} {s1 : St} {v : Value} {g1 : G} (hr : (execOp a.eval o).run P w = .ok (.value v) w1) (h : Sim rc nt w0 g0 w1 g1 bx s1 a) (hv : EV w0 w1 g1 bx s1.env v e) :
    Acts P rc nt w0 g0 w bx a o (some (e, s1)) := by
  intro e' s1' heq next Q hn
  cases heq
  unfold Oper.wp
  rw [hr]
  exact hn v w1 g1 a h hv
theorem Acts.of_skip {s1 : St} {g1 : G} (hr : (execOp a.eval o).run P w = .ok .skip w1) (h : Sim rc nt w0 g0 w1 g1 bx s1 a) : Acts P rc nt w0 g0 w bx a o (some (.v (.tup []), s1)) := by
  intro e' s1' heq next Q hn
  cases heq
  unfold Oper.wp
  rw [hr]
  exact hn undef w1 g1 a h (by simp only [EV, EnvAt, Rep]; exact ⟨#[], rfl, by simp [Reps]⟩)
theorem Reads.acts {r : OpR} (h : Sim rc nt w0 g0 w g bx s a) (hr : Reads P w g bx s a o r) : Acts P rc nt w0 g0 w bx a o r := by
  intro e s1 heq next Q hn
  obtain ⟨rfl, v, hrun, hv, hne⟩ := hr e s1 heq
  unfold Oper.wp
  rw [hrun]
  refine hn v w g a h ?_
  cases e with
  | box cs => exact absurd rfl (hne cs)
  | v x => exact hv
  | lp u off => exact hv

/-! ### a new object -/
def G.add (g : G) (id : Nat) (p : Pl) : G := ⟨g.L, fun j => if j = id then some p else g.hp j, id + 1⟩
theorem G.add_ext (h : Inv w g s.hp s.nx) (p : Pl) : Ext g (g.add s.nx p) := by
  refine ⟨fun _ _ _ _ hl => hl, fun j q hj hq => ?_, ?_⟩
  · have hq' : (if j = s.nx then some p else g.hp j) = some q := hq
    rw [if_neg (by rw [← h.nxe]; omega)] at hq'
    exact hq'
  · show g.nx ≤ s.nx + 1
    rw [h.nxe]; omega
theorem add_inv {hp : Heap} {nx : Nat} {p : Pl} {X : Go.Obj} {ob : Obj} (hi : Inv w g hp nx) (hw : w1.heap = w.heap.push X) (hp0 : p.blk = w.heap.size) (hat : ∀ g1, Ext g g1 → ObjAt w1 g1 p ob)
    (ho : w1.os = w.os) (ht : w1.tape = w.tape) (hout : w1.output = w.output) : Inv w1 (g.add nx p) (hset hp nx ob) (nx + 1) ∧ Step w g w1 (g.add nx p) := by
  have hext : Ext g (g.add nx p) := by
    refine ⟨fun _ _ _ _ hl => hl, fun j q hj hq => ?_, ?_⟩
    · have hq' : (if j = nx then some p else g.hp j) = some q := hq
      rw [if_neg (by rw [← hi.nxe]; omega)] at hq'
      exact hq'
    · show g.nx ≤ nx + 1
      rw [hi.nxe]; omega
  have hold : ∀ b, b < w.heap.size → w1.heap[b]? = w.heap[b]? := fun b hb => by rw [hw, Array.getElem?_push, if_neg (by omega)]
  have hnone : g.hp nx = none := by
    cases hx : g.hp nx with
    | none => rfl
    | some q =>
      obtain ⟨o, ho⟩ := hi.dom nx q hx
      have := (hi.obj nx o ho).1
      omega
  have hhp : ∀ j q, (g.add nx p).hp j = some q → (j = nx ∧ q = p) ∨ (j ≠ nx ∧ g.hp j = some q) := fun j q hj => by
    have hj' : (if j = nx then some p else g.hp j) = some q := hj
    split at hj'
    · rename_i h; cases hj'; exact .inl ⟨h, rfl⟩
    · rename_i h; exact .inr ⟨h, hj'⟩
  have hlt : ∀ j q, g.hp j = some q → q.blk < w.heap.size := fun j q h => hi.hp_lt h
  refine ⟨⟨rfl, fun c b o y hl => ?_, fun j o' hj => ?_, fun j q hj => ?_, fun i j q r h1 h2 h3 => ?_, fun j q c o' hj => ?_, hi.glob⟩,
    ⟨ho, ht, hout, by rw [hw]; simp, hext, fun b hb _ => hold b hb, fun j q hj => ?_, fun c b o' y hl => .inl hl⟩⟩
  · have hb := hi.lock_lt hl
    have := hi.lock c b o y hl
    unfold World.cell? at this ⊢
    rw [hold b hb]
    exact this
  · rw [hget_hset] at hj
    split at hj
    · rename_i hjn
      cases hj
      subst hjn
      exact ⟨Nat.lt_succ_self _, p, if_pos rfl, hat _ hext⟩
    · rename_i hjn
      obtain ⟨h1, q, hq, hq2⟩ := hi.obj j o' hj
      refine ⟨Nat.lt_succ_of_lt h1, q, (if_neg hjn).trans hq, hq2.move hext (hold _ (hlt j q hq))⟩
  · rcases hhp j q hj with ⟨rfl, rfl⟩ | ⟨hne, hq⟩
    · exact ⟨ob, by rw [hget_hset, if_pos rfl]⟩
    · obtain ⟨o', ho'⟩ := hi.dom j q hq
      exact ⟨o', by rw [hget_hset, if_neg hne]; exact ho'⟩
  · rcases hhp i q h1 with ⟨rfl, rfl⟩ | ⟨hne, hq⟩ <;> rcases hhp j r h2 with ⟨rfl, rfl⟩ | ⟨hne', hr⟩
    · rfl
    · have := hlt j r hr; omega
    · have := hlt i q hq; omega
    · exact hi.inj i j q r hq hr h3
  · rcases hhp j q hj with ⟨rfl, rfl⟩ | ⟨hne, hq⟩
    · cases hl : g.L c q.blk o' with
      | none => exact hl
      | some y => have := hi.lock_lt hl; omega
    · exact hi.unl j q c o' hq
  · rcases hhp j q hj with ⟨rfl, rfl⟩ | ⟨hne, hq⟩
    · exact .inl (by omega)
    · exact .inr ⟨j, q, hq, rfl⟩

theorem new_ok (h : Sim rc nt w0 g0 w g bx s a) {p : Pl} {X : Go.Obj} {ob : Obj} (hw : w1.heap = w.heap.push X) (hp0 : p.blk = w.heap.size) (hat : ∀ g1, Ext g g1 → ObjAt w1 g1 p ob)
    (ho : w1.os = w.os) (ht : w1.tape = w.tape) (hout : w1.output = w.output) : Sim rc nt w0 g0 w1 (g.add s.nx p) bx (s.new ob) a ∧ Ext g (g.add s.nx p) := by
  obtain ⟨hi, st⟩ := add_inv h.inv hw hp0 hat ho ht hout
  exact ⟨h.go st hi, st.ext⟩

/-- Cells that lie in a block from its start. -/
theorem cellsAt_of_reps {cs : List V} {arr : Array Value} (h : Reps g cs arr.toList) : CellsAt g arr 0 cs := fun j x hx => by
  obtain ⟨y, hy, hr⟩ := h.get hx
  rw [Array.getElem?_toList] at hy
  exact ⟨y, by rw [Nat.zero_add]; exact hy, hr⟩
theorem objAt_new {t z : Nat} {cs : List V} {arr : Array Value} {fr : Nat × Nat} (hw : w1.heap = w.heap.push (.cells arr t fr)) (hf : soft arr fr) (hc : ∀ y ∈ arr.toList, cellV y) (hr : CellsAt g arr 0 cs) (hl : cs.length ≤ arr.size) :
    ∀ g1, Ext g g1 → ObjAt w1 g1 ⟨w.heap.size, 0, arr.size, z⟩ (.cells t z cs) := fun g1 he =>
  ⟨rfl, arr, fr, by show w1.heap[w.heap.size]? = _; rw [hw]; simp, hf, rfl, hc, by simpa using hl, hr.ext he⟩
theorem soft0 (arr : Array Value) : soft arr (0, 0) := fun o _ h => by omega

theorem rep_new_ptr {p : Pl} (hb : p.base = 0) (nx : Nat) : Rep (g.add nx p) (.ptr nx 0) (.pointer (some ⟨p.blk, 0, none⟩)) := by
  simp only [Rep]
  refine ⟨Nat.lt_succ_self _, p.blk, 0, rfl, fun q hq => ?_⟩
  have hq' : (if nx = nx then some p else g.hp nx) = some q := hq
  rw [if_pos rfl] at hq'; cases hq'
  exact ⟨rfl, hb⟩
theorem rep_new_msl {p : Pl} (hb : p.base = 0) (nx n cap : Nat) (hn : n ≤ cap) (hs : cap * p.esz = p.size) : Rep (g.add nx p) (.msl nx 0 n) (.slice (some ⟨p.blk, 0, none⟩) n cap) := by
  have hp : (g.add nx p).hp nx = some p := if_pos rfl
  simp only [Rep]
  refine ⟨Nat.lt_succ_self _, _, cap, rfl, hn, fun _ => ⟨p.blk, 0, rfl, fun q hq => ?_⟩, fun q hq => ?_⟩
  · rw [hp] at hq; cases hq; exact ⟨rfl, hb⟩
  · rw [hp] at hq; cases hq; omega

theorem zero_of {t : TypeId} {z : List V} (h : zeroP P t = some z) : ∃ i v, P.info? t = some i ∧ i.zero = some v ∧ (zeroValue t).run P w = .ok v w ∧ z.length = v.cells.size ∧ (∀ y ∈ v.cells.toList, cellV y) ∧ ∀ g : G, Reps g z v.cells.toList := by
  unfold zeroP at h
  split at h
  · rename_i i hi
    split at h
    · rename_i v hv
      split at h
      · rename_i ha
        cases h
        exact ⟨i, v, hi, hv, by simp [zeroValue, typeInfo, hi, hv], by simp, fun y hy => cellV_of_leafB (List.all_eq_true.1 ha y hy), fun g => reps_ofLeaf g _ ha⟩
      · cases h
    · cases h
  · cases h

theorem run_alloc' {e : TypeId} {v : Value} (hz : (zeroValue e).run P w = .ok v w) : (Instr.alloc e true (.tuple #[])).run P w = .ok (.pointer (some ⟨w.heap.size, 0, none⟩)) (w.alloc (.cells v.cells e)) := by
  simp only [Instr.alloc, Sem.run_bind, hz, Result.andThen_ok]
  rfl
theorem run_box' (e : TypeId) (v : Value) : (Instr.box e v).run P w = .ok (.pointer (some ⟨w.heap.size, 0, none⟩)) (w.alloc (.cells v.cells e)) := rfl

theorem halloc_ok (h : Sim rc nt w0 g0 w g bx s a) {e : TypeId} {z : List V} (hz : zeroP P e = some z) (ho : o.op = .alloc e) : Acts P rc nt w0 g0 w bx a o (evHalloc e z s) := by
  obtain ⟨i, v, hi, hv, hrun, hl, hc, hr⟩ := zero_of (P := P) (w := w) hz
  obtain ⟨h1, he⟩ := new_ok (w1 := w.alloc (.cells v.cells e)) (p := ⟨w.heap.size, 0, v.cells.size, 0⟩) (ob := .cells e 0 z) h rfl rfl
    (objAt_new rfl (soft0 _) hc (cellsAt_of_reps (hr g)) (by omega)) rfl rfl rfl
  exact Acts.of_value (by simp only [execOp, ho, Sem.run_bind, run_alloc' hrun, Result.andThen_ok, Sem.run_pure]) h1 (rep_new_ptr (p := ⟨w.heap.size, 0, v.cells.size, 0⟩) rfl s.nx)

theorem hboxv_ok (h : Sim rc nt w0 g0 w g bx s a) {e : TypeId} {n : Nat} {x : Operand} (ho : o.op = .box e x) : Acts P rc nt w0 g0 w bx a o (evHboxv e n (opd x) s) := by
  unfold evHboxv
  split
  · rename_i y hy
    split
    · rename_i cs hcs
      obtain ⟨hs, hl, hr, hc⟩ := rep_cells (v_opd h.env hy) hcs
      obtain ⟨h1, he⟩ := new_ok (w1 := w.alloc (.cells (a.eval x).cells e)) (p := ⟨w.heap.size, 0, (a.eval x).cells.size, 0⟩) (ob := .cells e 0 cs) h rfl rfl
        (objAt_new rfl (soft0 _) hc (cellsAt_of_reps hr) (by omega)) rfl rfl rfl
      exact Acts.of_value (by simp only [execOp, ho, Sem.run_bind, run_box', Result.andThen_ok, Sem.run_pure]) h1 (rep_new_ptr (p := ⟨w.heap.size, 0, (a.eval x).cells.size, 0⟩) rfl s.nx)
    · exact Acts.none
  · exact Acts.none

/-- A block of the frame's own. -/
theorem step_alloc {hp : Heap} {nx : Nat} (hi : Inv w g hp nx) {X : Go.Obj} (hw : w1.heap = w.heap.push X) (ho : w1.os = w.os) (ht : w1.tape = w.tape) (hout : w1.output = w.output) : Step w g w1 g ∧ Inv w1 g hp nx := by
  have hold : ∀ b, b < w.heap.size → w1.heap[b]? = w.heap[b]? := fun b hb => by rw [hw, Array.getElem?_push, if_neg (by omega)]
  refine ⟨⟨ho, ht, hout, by rw [hw]; simp, Ext.refl g, fun b hb _ => hold b hb, fun id p hp => .inr ⟨id, p, hp, rfl⟩, fun _ _ _ _ hl => .inl hl⟩,
    ⟨hi.nxe, fun c b o y hl => ?_, fun id ob hob => ?_, hi.dom, hi.inj, hi.unl, hi.glob⟩⟩
  · have hb := hi.lock_lt hl
    have := hi.lock c b o y hl
    unfold World.cell? at this ⊢
    rw [hold b hb]; exact this
  · obtain ⟨h1, p, hp, hat⟩ := hi.obj id ob hob
    exact ⟨h1, p, hp, hat.move (Ext.refl g) (hold _ hat.lt)⟩
theorem ev_box (h : Sim rc nt w0 g0 w g bx s a) {arr : Array Value} {t : TypeId} {cs : List V} (hc : ∀ y ∈ arr.toList, cellV y) (hr : Reps g cs arr.toList) (hl : cs.length = arr.size) (hw : w1.heap = w.heap.push (.cells arr t (0, 0))) :
    EV w0 w1 g bx s.env (.pointer (some ⟨w.heap.size, 0, none⟩)) (.box cs) := by
  refine ⟨w.heap.size, rfl, ⟨arr, t, (0, 0), by rw [hw]; simp, soft0 _, hl.symm, hc, cellsAt_of_reps hr⟩, h.step.size, fun t hb => ?_, fun id p hp hb => ?_, fun c o => ?_⟩
  · have := h.env.bx_lt hb; omega
  · have := h.inv.hp_lt hp; omega
  · cases hl : g.L c w.heap.size o with
    | none => rfl
    | some y => have := h.inv.lock_lt hl; omega

theorem box_ok (h : Sim rc nt w0 g0 w g bx s a) {e : TypeId} {z : List V} (hz : zeroP P e = some z) (ho : o.op = .alloc e) : Acts P rc nt w0 g0 w bx a o (evBox z s) := by
  obtain ⟨i, v, hi, hv, hrun, hl, hc, hr⟩ := zero_of (P := P) (w := w) hz
  obtain ⟨st, hin⟩ := step_alloc (w1 := w.alloc (.cells v.cells e)) h.inv rfl rfl rfl rfl
  exact Acts.of_value (by simp only [execOp, ho, Sem.run_bind, run_alloc' hrun, Result.andThen_ok, Sem.run_pure]) (h.go st hin) (ev_box h hc (hr g) hl rfl)
theorem boxv_ok (h : Sim rc nt w0 g0 w g bx s a) {e : TypeId} {n : Nat} {x : Operand} (ho : o.op = .box e x) : Acts P rc nt w0 g0 w bx a o (evBoxv n (opd x) s) := by
  unfold evBoxv
  split
  · rename_i y hy
    split
    · rename_i cs hcs
      obtain ⟨hs, hl, hr, hc⟩ := rep_cells (v_opd h.env hy) hcs
      obtain ⟨st, hin⟩ := step_alloc (w1 := w.alloc (.cells (a.eval x).cells e)) h.inv rfl rfl rfl rfl
      exact Acts.of_value (by simp only [execOp, ho, Sem.run_bind, run_box', Result.andThen_ok, Sem.run_pure]) (h.go st hin) (ev_box h hc hr (by omega) rfl)
    · exact Acts.none
  · exact Acts.none

/-! ### the map that is new, the text as bytes, the slice that is made -/
theorem mkmap_ok (h : Sim rc nt w0 g0 w g bx s a) {t : TypeId} (ho : o.op = .makeMap t none) : Acts P rc nt w0 g0 w bx a o (evMkmap s) := by
  obtain ⟨h1, he⟩ := new_ok (w1 := w.alloc (.map #[] 0)) (p := ⟨w.heap.size, 0, 0, 0⟩) (ob := .map []) h rfl rfl
    (fun g1 _ => ⟨#[], 0, by show (w.heap.push _)[w.heap.size]? = _; simp, .nil⟩) rfl rfl rfl
  refine Acts.of_value (v := .map (some w.heap.size)) (by simp only [execOp, ho, Sem.run_bind]; rfl) h1 ?_
  show Rep _ _ _
  simp only [Rep]
  refine ⟨Nat.lt_succ_self _, _, rfl, fun q hq => ?_⟩
  have hq' : (if s.nx = s.nx then some (⟨w.heap.size, 0, 0, 0⟩ : Pl) else g.hp s.nx) = some q := hq
  rw [if_pos rfl] at hq'; cases hq'; rfl
end
end Go.Air

/- AIR: literals of structs, arrays and slices. -/
namespace Go.Air
variable [GL]

theorem wr_some {cs xs cs' : List V} {off : Nat} (h : wr cs off xs = some cs') : off + xs.length ≤ cs.length ∧ cs' = cs.take off ++ (xs ++ cs.drop (off + xs.length)) := by
  obtain ⟨h1, h2⟩ := gd_some h
  have h1 := Nat.le_of_ble_eq_true h1
  rw [lenR_eq, lenR_eq] at h1
  cases h2
  rw [appR_eq, appR_eq, takeR_eq, dropR_eq, lenR_eq]
  exact ⟨h1, rfl⟩

theorem fold_list (off : Nat) (vc : Array Value) (arr : Array Value) (h : off + vc.size ≤ arr.size) :
    (vc.zipIdx.foldl (fun cs (x : Value × Nat) => cs.setIfInBounds (off + x.2) x.1) arr).toList = arr.toList.take off ++ (vc.toList ++ arr.toList.drop (off + vc.size)) := by
  rw [← Array.foldl_toList, Array.toList_zipIdx]
  obtain ⟨h1, h2⟩ := Great.foldl_set off vc.toList 0 arr
  apply List.ext_getElem?
  intro k
  rw [Array.getElem?_toList, h2 k]
  simp only [Nat.add_zero, Array.length_toList]
  by_cases hk : k < off
  · rw [if_neg (by omega), List.getElem?_append_left (by simp; omega), List.getElem?_take, if_pos hk, Array.getElem?_toList]
  · by_cases hk2 : k < off + vc.size
    · rw [if_pos ⟨by omega, hk2, by omega⟩, List.getElem?_append_right (by simp; omega), List.getElem?_append_left (by simp; omega)]
      congr 1
      simp; omega
    · rw [if_neg (by omega), List.getElem?_append_right (by simp; omega), List.getElem?_append_right (by simp; omega), List.getElem?_drop, Array.getElem?_toList]
      congr 1
      simp; omega

section
variable {P : Program} {rc : Bool} {nt : Nat} {w0 : World} {g0 : G} {w w1 : World} {g : G} {bx : Nat → Option Nat} {s s' : St} {a : Act} {o : Oper}

theorem fill_ok (he : Env w g bx s.env a.tmps) {pl : Nat → Option (Nat × Nat)} : ∀ (ps : List (Nat × Operand)) {l : List (Nat × Nat × Atom)} {vs : List (Nat × Nat × V)} {cs cs' : List V} {arr : Array Value},
    partsP pl ps = some l → s.parts l = some vs → fillV cs vs = some cs' → Reps g cs arr.toList → (∀ y ∈ arr.toList, cellV y) →
    ∃ arr' : Array Value, Instr.fill pl arr (ps.map fun p => (p.1, a.eval p.2)) = some arr' ∧ Reps g cs' arr'.toList ∧ (∀ y ∈ arr'.toList, cellV y) ∧ arr'.size = arr.size
  | [], l, vs, cs, cs', arr, h1, h2, h3, hr, hc => by
    cases h1; cases h2; cases h3
    exact ⟨arr, rfl, hr, hc, rfl⟩
  | (i, x) :: r, l, vs, cs, cs', arr, h1, h2, h3, hr, hc => by
    unfold partsP at h1
    split at h1
    · rename_i off z l' hp hl'
      cases h1
      unfold St.parts at h2
      split at h2
      · rename_i y hy
        split at h2
        · rename_i vs' hvs
          cases h2
          unfold fillV at h3
          split at h3
          · rename_i xs hxs
            split at h3
            · rename_i cs1 hw
              obtain ⟨hs, hl, hrx, hcx⟩ := rep_cells (v_opd he hy) hxs
              obtain ⟨hle, rfl⟩ := wr_some hw
              have hlen := hr.length
              simp only [Array.length_toList] at hlen
              have hfit : off + (a.eval x).cells.size ≤ arr.size := by omega
              have hfl := fold_list off (a.eval x).cells arr hfit
              generalize harr : (a.eval x).cells.zipIdx.foldl (fun cs (x : Value × Nat) => cs.setIfInBounds (off + x.2) x.1) arr = arr1 at hfl
              have hr1 : Reps g (cs.take off ++ (xs ++ cs.drop (off + xs.length))) arr1.toList := by
                rw [hfl, hs, ← hl]
                exact (hr.take off).append (hrx.append (hr.drop _))
              have hc1 : ∀ y ∈ arr1.toList, cellV y := by
                rw [hfl]
                intro y hy
                rcases List.mem_append.1 hy with h | h
                · exact hc y (List.mem_of_mem_take h)
                · rcases List.mem_append.1 h with h | h
                  · exact hcx y h
                  · exact hc y (List.mem_of_mem_drop h)
              obtain ⟨arr', hf, hr', hc', hsz⟩ := fill_ok he r hl' hvs h3 hr1 hc1
              refine ⟨arr', ?_, hr', hc', ?_⟩
              · simp only [List.map_cons, Instr.fill, hp]
                rw [if_neg (by simp [hs]; omega)]
                have : (a.eval x).cells.zipIdx.foldl (fun cs (c, j) => cs.setIfInBounds (off + j) c) arr = arr1 := harr
                rw [this]
                exact hf
              · have : arr1.size = arr.size := by
                  have h := congrArg List.length hfl
                  simp at h
                  omega
                omega
            · cases h3
          · cases h3
        · cases h2
      · cases h2
    · cases h1

theorem fillO_some {z : List V} {r : Option (List (Nat × Nat × V))} {cs : List V} (h : fillO z r = some cs) : ∃ vs, r = some vs ∧ fillV z vs = some cs := by
  cases r with
  | none => cases h
  | some vs => exact ⟨vs, rfl, h⟩

theorem places_ok (w : World) : ∀ (fs : List Field) (l : List (Nat × Nat)), placesP P fs = some l → fs.mapM (fun f => (P.info? f.type).map fun i => (f.offset, i.size)) = some l := fun _ _ h => h

theorem build_ok (h : Sim rc nt w0 g0 w g bx s a) {t : TypeId} {ps : Array (Nat × Operand)} {pl : Nat → Option (Nat × Nat)} {z : List V} {l : List (Nat × Nat × Atom)} (hpl : placeP P t = some pl) (hz : zeroP P t = some z)
    (hl : partsP pl ps.toList = some l) (ho : o.op = .build t ps) : Reads P w g bx s a o (evBuild z l s) := by
  unfold evBuild
  split
  · rename_i cs hcs
    obtain ⟨vs, hvs, hf⟩ := fillO_some hcs
    obtain ⟨i, v, hi, hv, hrun, hzl, hc, hr⟩ := zero_of (P := P) (w := w) hz
    obtain ⟨arr', hfill, hr', hc', hsz⟩ := fill_ok h.env ps.toList hl hvs hf (hr g) hc
    refine Reads.val (v := .agg arr') ?_ (by simp only [Rep]; exact ⟨arr', rfl, hr', hc'⟩)
    have hmap : (ps.map fun (i, x) => (i, a.eval x)).toList = ps.toList.map fun p => (p.1, a.eval p.2) := by simp
    have hb : P.built t (ps.map fun (i, x) => (i, a.eval x)).toList = some arr' := by
      unfold Program.built
      unfold placeP at hpl
      rw [hmap]
      split at hpl
      · rename_i n e hu
        split at hpl
        · rename_i ie hie
          cases hpl
          simp only [hi, hu, hv, hie, hfill]
        · cases hpl
      · rename_i fs hu
        split at hpl
        · rename_i places hp
          cases hpl
          have := places_ok w fs.toList places hp
          simp only [hi, hu, hv, this, hfill]
        · cases hpl
      · cases hpl
    simp only [execOp, ho, Sem.run_bind, run_build w t _ _ hb, Result.andThen_ok, Sem.run_pure]
  · exact Reads.none

theorem rows_parts (sz : Nat) : ∀ (ps : List (Nat × Operand)), partsP (fun i => some (i * sz, sz)) ps = some (rows sz (ps.map fun p => (p.1, opd p.2)))
  | [] => rfl
  | (i, x) :: r => by
    have ih := rows_parts sz r
    simp only [partsP, ih]
    rfl

theorem replicateV_len (z : List V) : ∀ n, (replicateV n z).length = n * z.length
  | 0 => by simp [replicateV]
  | n + 1 => by simp [replicateV, appR_eq, replicateV_len z n, Nat.add_mul]; omega
theorem replicateV_get (z : List V) (hz : 0 < z.length) : ∀ n i, i < n * z.length → (replicateV n z)[i]? = z[i % z.length]?
  | 0, i, h => by simp at h
  | n + 1, i, h => by
    simp only [replicateV, appR_eq]
    by_cases hi : i < z.length
    · rw [List.getElem?_append_left hi, Nat.mod_eq_of_lt hi]
    · rw [List.getElem?_append_right (by omega), replicateV_get z hz n (i - z.length) (by rw [Nat.add_mul] at h; omega)]
      congr 1
      rw [Nat.mod_eq_sub_mod (a := i) (b := z.length) (by omega)]
theorem made_reps {z : List V} {zc : Array Value} (hr : Reps g z zc.toList) (hz : 0 < z.length) (n : Nat) : Reps g (replicateV n z) (madeCells zc (n * z.length)).toList := by
  have hl := hr.length
  simp only [Array.length_toList] at hl
  refine Reps.of_get (by rw [replicateV_len]; simp [madeCells]) fun i x hx => ?_
  have hi : i < n * z.length := by
    have := (List.getElem?_eq_some_iff.1 hx).1
    rwa [replicateV_len] at this
  rw [replicateV_get z hz n i hi] at hx
  obtain ⟨y, hy, hxy⟩ := hr.get hx
  rw [Array.getElem?_toList] at hy
  refine ⟨y, ?_, hxy⟩
  rw [Array.getElem?_toList]
  have hm : i % zc.size < zc.size := Nat.mod_lt _ (by omega)
  simp only [madeCells, Array.getElem?_map, Array.getElem?_range, hi, if_true, Option.map_some]
  rw [hl]
  rw [← hl] at hy
  have := (Array.getElem?_eq_some_iff.1 hy).2
  rw [← hl]
  rw [getElem!_pos zc _ hm, this]
theorem made_cellV {zc : Array Value} (h : ∀ y ∈ zc.toList, cellV y) (hz : 0 < zc.size) (n : Nat) : ∀ y ∈ (madeCells zc n).toList, cellV y := by
  intro y hy
  simp only [madeCells, Array.toList_map, List.mem_map] at hy
  obtain ⟨i, _, rfl⟩ := hy
  have hm : i % zc.size < zc.size := Nat.mod_lt _ hz
  rw [getElem!_pos zc _ hm]
  exact h _ (by simp)

/-- The row of a slice's literal. -/
theorem buildSlice_run (h : Sim rc nt w0 g0 w g bx s a) {t e : TypeId} {n z : Nat} {agg : Bool} {zs : List V} {ps : Array (Nat × Operand)} (he : elemP P t = some (e, z, agg, zs)) (hsm : n * z ≤ 4096) {cs : List V}
    (hcs : fillO (replicateV n zs) (s.parts (rows z (ps.toList.map fun p => (p.1, opd p.2)))) = some cs) (ho : o.op = .buildSlice t n ps) :
    ∃ arr : Array Value, (execOp a.eval o).run P w = .ok (.value (.slice (some ⟨w.heap.size, 0, none⟩) n n)) (w.alloc (.cells arr e)) ∧ Reps g cs arr.toList ∧ (∀ y ∈ arr.toList, cellV y) ∧ arr.size = n * z := by
  obtain ⟨hu, hn, hz0, rfl, hz, hzl⟩ := elem_of he
  obtain ⟨vs, hvs, hf⟩ := fillO_some hcs
  obtain ⟨i, v, hi, hv, hrun, hzl', hc, hr⟩ := zero_of (P := P) (w := w) hz
  obtain ⟨i', d, hi', hs, hd, _⟩ := size_of hn
  rw [hi] at hi'; cases hi'
  subst hs
  have hr0 := made_reps (hr g) (by omega) n
  rw [hzl] at hr0
  obtain ⟨arr', hfill, hr', hc', hsz⟩ := fill_ok h.env ps.toList (rows_parts i.size ps.toList) hvs hf hr0 (made_cellV hc (by omega) _)
  rw [size_madeCells] at hsz
  have hmap : (ps.map fun (i, x) => (i, a.eval x)).toList = ps.toList.map fun p => (p.1, a.eval p.2) := by simp
  refine ⟨arr', ?_, hr', hc', hsz⟩
  by_cases hpos : n * i.size = 0
  · have h0 : madeCells v.cells (n * i.size) = #[] := by rw [hpos]; simp [madeCells]
    rw [h0] at hfill
    simp only [execOp, ho, Instr.buildSlice, Sem.run_bind, run_underlying hu, Result.andThen_ok, sizeOf, typeInfo, run_program, hi, Sem.run_pure]
    rw [if_neg (by omega)]
    have hn0 : n = 0 := by
      rcases Nat.mul_eq_zero.1 hpos with h | h
      · exact h
      · exact absurd h hz0
    subst hn0
    have hrg : Array.range 0 = #[] := rfl
    simp [hmap, hfill, newRow, hrg]
  · have := run_buildSlice (P := P) w t e n (ps.map fun (i, x) => (i, a.eval x)) arr' i v hu hi hv (by omega) hpos (by rw [hmap]; exact hfill)
    simp only [execOp, ho, Sem.run_bind, this, Result.andThen_ok, Sem.run_pure]

theorem mkmsl_ok (h : Sim rc nt w0 g0 w g bx s a) {t e : TypeId} {n z : Nat} {agg : Bool} {zs : List V} {ps : Array (Nat × Operand)} (he : elemP P t = some (e, z, agg, zs)) (hsm : n * z ≤ 4096) (ho : o.op = .buildSlice t n ps) :
    Acts P rc nt w0 g0 w bx a o (evMkmsl e z zs n (ps.toList.map fun p => (p.1, opd p.2)) s) := by
  unfold evMkmsl
  split
  · rename_i cs hcs
    obtain ⟨arr, hrun, hr, hc, hsz⟩ := buildSlice_run h he hsm hcs ho
    have hl := hr.length
    simp only [Array.length_toList] at hl
    obtain ⟨h1, hext⟩ := new_ok (w1 := w.alloc (.cells arr e)) (p := ⟨w.heap.size, 0, arr.size, z⟩) (ob := .cells e z cs) h rfl rfl (objAt_new rfl (soft0 _) hc (cellsAt_of_reps hr) (by omega)) rfl rfl rfl
    exact Acts.of_value hrun h1 (rep_new_msl (p := ⟨w.heap.size, 0, arr.size, z⟩) rfl s.nx n n (Nat.le_refl _) hsz.symm)
  · exact Acts.none

/-- The ghost with a block that stays. -/
def G.lck (g : G) (w1 : World) (b : Nat) : G := ⟨fun c b' o => if b' = b ∧ c = true then w1.cell? ⟨b', o, none⟩ else g.L c b' o, g.hp, g.nx⟩
theorem lck_inv {hp : Heap} {nx : Nat} (hi : Inv w g hp nx) {X : Go.Obj} (hw : w1.heap = w.heap.push X) (ho : w1.os = w.os) (ht : w1.tape = w.tape) (hout : w1.output = w.output) :
    Step w g w1 (g.lck w1 w.heap.size) ∧ Inv w1 (g.lck w1 w.heap.size) hp nx := by
  have hold : ∀ b, b < w.heap.size → w1.heap[b]? = w.heap[b]? := fun b hb => by rw [hw, Array.getElem?_push, if_neg (by omega)]
  have hext : Ext g (g.lck w1 w.heap.size) := by
    refine ⟨fun c b o y hl => ?_, fun _ _ _ h => h, Nat.le_refl _⟩
    have := hi.lock_lt hl
    show (if b = w.heap.size ∧ c = true then _ else _) = _
    rw [if_neg (by omega)]; exact hl
  have hL : ∀ c b o y, (g.lck w1 w.heap.size).L c b o = some y → (b = w.heap.size ∧ w1.cell? ⟨b, o, none⟩ = some y) ∨ g.L c b o = some y := fun c b o y hl => by
    have hl' : (if b = w.heap.size ∧ c = true then w1.cell? ⟨b, o, none⟩ else g.L c b o) = some y := hl
    split at hl'
    · rename_i hb; exact .inl ⟨hb.1, hl'⟩
    · exact .inr hl'
  refine ⟨⟨ho, ht, hout, by rw [hw]; simp, hext, fun b hb _ => hold b hb, fun id p hp => .inr ⟨id, p, hp, rfl⟩, fun c b o y hl => ?_⟩,
    ⟨hi.nxe, fun c b o y hl => ?_, fun id ob hob => ?_, hi.dom, hi.inj, fun id p c o hp => ?_, GL.mono _ _ hext.L hi.glob⟩⟩
  · rcases hL c b o y hl with ⟨h1, _⟩ | h1
    · exact .inr (.inl (by omega))
    · exact .inl h1
  · rcases hL c b o y hl with ⟨_, h1⟩ | h1
    · exact h1
    · have hb := hi.lock_lt h1
      have := hi.lock c b o y h1
      unfold World.cell? at this ⊢
      rw [hold b hb]; exact this
  · obtain ⟨h1, p, hp, hat⟩ := hi.obj id ob hob
    exact ⟨h1, p, hp, hat.move hext (hold _ hat.lt)⟩
  · have := hi.hp_lt hp
    show (if p.blk = w.heap.size ∧ c = true then _ else _) = _
    rw [if_neg (by omega)]
    exact hi.unl id p c o hp

theorem mkisl_ok (h : Sim rc nt w0 g0 w g bx s a) {t e : TypeId} {n z : Nat} {agg : Bool} {zs : List V} {ps : Array (Nat × Operand)} (he : elemP P t = some (e, z, agg, zs)) (hsm : n * z ≤ 4096) (ho : o.op = .buildSlice t n ps) :
    Acts P rc nt w0 g0 w bx a o (evMkisl z agg zs n (ps.toList.map fun p => (p.1, opd p.2)) s) := by
  unfold evMkisl
  split
  · rename_i cs hcs
    refine Acts.gd fun hone => ?_
    obtain ⟨arr, hrun, hr, hc, hsz⟩ := buildSlice_run h he hsm hcs ho
    have hl := hr.length
    simp only [Array.length_toList] at hl
    obtain ⟨st, hin⟩ := lck_inv (w1 := w.alloc (.cells arr e)) h.inv rfl rfl rfl rfl
    refine Acts.of_value hrun (h.go st hin) ?_
    show Rep _ _ _
    simp only [Rep]
    refine ⟨_, n, w.heap.size, 0, by rw [chunk_length], by rw [chunk_length]; exact Nat.le_refl _, fun _ => rfl, ?_⟩
    refine chunk_ok hone n 0 cs arr.toList (by omega) (Reps.ext st.ext _ _ hr) hc fun j y hj => ?_
    show (if w.heap.size = w.heap.size ∧ true = true then (w.alloc (.cells arr e)).cell? ⟨w.heap.size, 0 + j, none⟩ else _) = _
    have hb : (w.alloc (.cells arr e)).heap[w.heap.size]? = some (.cells arr e (0, 0)) := by show (w.heap.push _)[w.heap.size]? = _; simp
    rw [if_pos ⟨rfl, rfl⟩, cell_arr hb, Nat.zero_add, ← Array.getElem?_toList]
    exact hj
  · exact Acts.none

theorem bytes_of {e : TypeId} {i : TypeInfo} (hi : P.info? e = some i) (h : bytesOk P e = true) : i.bytes ≤ 4096 ∧ i.size ≤ 4096 := by
  unfold bytesOk at h
  rw [hi] at h
  obtain ⟨h1, h2⟩ := and_le h
  exact ⟨Nat.le_of_ble_eq_true h1, Nat.le_of_ble_eq_true h2⟩

theorem mksl_ok (h : Sim rc nt w0 g0 w g bx s a) {t e : TypeId} {z : Nat} {agg : Bool} {zs : List V} {l c : Operand} (he : elemP P t = some (e, z, agg, zs)) (hb : bytesOk P e = true) (ho : o.op = .makeSlice t l c) :
    Acts P rc nt w0 g0 w bx a o (evMksl e z zs (opd l) (opd c) s) := by
  unfold evMksl
  split
  · rename_i ln hln
    split
    · rename_i cp hcp
      refine Acts.gd fun hle => ?_
      have hle := Nat.le_of_ble_eq_true hle
      obtain ⟨kl, hl, hl2⟩ := nat_opd h.env hln
      obtain ⟨kc, hc, hc2⟩ := nat_opd h.env hcp
      obtain ⟨hu, hn, hz0, rfl, hz, hzl⟩ := elem_of he
      obtain ⟨i, v, hi, hv, hzrun, hzl', hcv, hr⟩ := zero_of (P := P) (w := w) hz
      obtain ⟨i', d, hi', hs, hd, _⟩ := size_of hn
      rw [hi] at hi'; cases hi'
      subst hs
      obtain ⟨hb1, _⟩ := bytes_of hi hb
      have hmul : (i.bytes : Int) * (Int.ofNat cp) ≤ 281474976710656 := by
        have h1 : i.bytes * cp ≤ 4096 * 2147483647 := Nat.mul_le_mul hb1 hc2
        have h2 : ((i.bytes * cp : Nat) : Int) ≤ 281474976710656 := by omega
        rw [Int.natCast_mul] at h2
        exact h2
      have hrun := run_make (P := P) w t e i v hu hi hv kl kc (Int.ofNat ln) (Int.ofNat cp) (Int.natCast_nonneg _) (Int.ofNat_le.2 hle) hmul (by simp only [Int.ofNat_eq_natCast]; omega)
      simp only [Int.ofNat_eq_natCast, Int.toNat_natCast] at hrun
      have hr0 := made_reps (hr g) (by omega) cp
      rw [hzl] at hr0
      have hsz : (madeCells v.cells (cp * i.size)).size = cp * i.size := size_madeCells _ _
      have hlen : (replicateV cp zs).length = cp * i.size := by rw [replicateV_len, hzl]
      obtain ⟨h1, hext⟩ := new_ok (w1 := w.alloc (.cells (madeCells v.cells (cp * i.size)) e)) (p := ⟨w.heap.size, 0, (madeCells v.cells (cp * i.size)).size, i.size⟩) (ob := .cells e i.size (replicateV cp zs)) h rfl rfl
        (objAt_new rfl (soft0 _) (made_cellV hcv (by omega) _) (cellsAt_of_reps hr0) (by omega)) rfl rfl rfl
      refine Acts.of_value ?_ h1 (rep_new_msl (p := ⟨w.heap.size, 0, (madeCells v.cells (cp * i.size)).size, i.size⟩) rfl s.nx ln cp hle hsz.symm)
      simp only [execOp, ho, Sem.run_bind, hl, hc, Int.ofNat_eq_natCast, hrun, Result.andThen_ok, Sem.run_pure]
    · exact Acts.none
  · exact Acts.none
end
end Go.Air

/- AIR: operations that change memory. -/
namespace Go.Air
variable [GL]

theorem setCells_heap (b : Nat) (t : TypeId) (fr : Nat × Nat) : ∀ (vs : List Value) (o : Nat) (arr : Array Value) (w : World), w.heap[b]? = some (.cells arr t fr) → o + vs.length ≤ arr.size →
    w.setCells b o vs = w.setRow b (arr.toList.take o ++ (vs ++ arr.toList.drop (o + vs.length))).toArray
  | [], o, arr, w, hw, _ => by
    simp only [World.setCells, List.nil_append, List.length_nil, Nat.add_zero, List.take_append_drop, Array.toArray_toList]
    rw [setRow_self w b arr t fr hw]
  | v :: r, o, arr, w, hw, hl => by
    have h1 : w.setCell ⟨b, o, none⟩ v = w.setRow b (arr.setIfInBounds o v) := setCell_eq_setRow w b o arr t fr v hw
    have hw2 := setRow_heap w b arr (arr.setIfInBounds o v) t fr hw
    simp only [World.setCells, h1]
    rw [setCells_heap b t fr r (o + 1) (arr.setIfInBounds o v) _ hw2 (by simp at hl ⊢; omega), setRow_setRow]
    congr 2
    have := list_seg_step arr.toList o v r (by simp at hl ⊢; omega)
    simp only [List.append_assoc] at this
    simpa [Array.toList_setIfInBounds, List.length_cons] using this

theorem one_of_cellV {v : Value} (h : cellV v) : v.oneCell' = true := by cases v <;> first | rfl | cases h

section
variable {P : Program} {rc : Bool} {nt : Nat} {w0 : World} {g0 : G} {w w1 : World} {g : G} {bx : Nat → Option Nat} {s s' : St} {a : Act} {o : Oper}

theorem soft_frozen {arr : Array Value} {t : TypeId} {fr : Nat × Nat} {b : Nat} (h : w.heap[b]? = some (.cells arr t fr)) (hs : soft arr fr) {o : Nat} (ho : o < arr.size) : w.frozen? ⟨b, o, none⟩ = false := by
  unfold World.frozen?
  rw [h]
  have := hs o ho
  cases hd : (decide (fr.1 ≤ o) && decide (o < fr.2)) with
  | false => obtain ⟨lo, hi⟩ := fr; exact hd
  | true => simp at hd; exact absurd hd this

/-- A store of a value's cells in a block of cells. -/
theorem run_store' {t : TypeId} {n : Nat} {v : Value} {b off : Nat} {arr : Array Value} {u : TypeId} {fr : Nat × Nat} (hn : sizeP P t = some n) (hv : v.cells.size = n) (hc : ∀ y ∈ v.cells.toList, cellV y)
    (hb : w.heap[b]? = some (.cells arr u fr)) (hf : soft arr fr) (hfit : off + n ≤ arr.size) :
    (storeVar t ⟨b, off, none⟩ v).run P w = .ok () (w.setRow b (arr.toList.take off ++ (v.cells.toList ++ arr.toList.drop (off + n))).toArray) := by
  unfold storeVar
  simp only [Sem.run_bind, run_sizeOf' hn, Result.andThen_ok]
  rw [if_neg (by rw [hv]; simp)]
  have hl : v.cells.toList.length = n := by simp [hv]
  have := run_storeCells_cells (P := P) b off v.cells.toList 0 w (fun j hj => by
      rw [cell_arr hb, Nat.add_zero]
      have : off + j < arr.size := by omega
      simp [this]) (fun j hj => soft_frozen hb hf (by omega)) (fun y hy => one_of_cellV (hc y hy))
  rw [Nat.add_zero] at this
  rw [this, setCells_heap b u fr v.cells.toList off arr w hb (by omega), hl]

/-! ### an object that changes -/
theorem upd_inv {hp : Heap} {nx id : Nat} {p : Pl} {X : Go.Obj} {ob : Obj} (hi : Inv w g hp nx) (hp0 : g.hp id = some p) (hw : w1.heap = w.heap.setIfInBounds p.blk X) (hat : ObjAt w1 g p ob)
    (ho : w1.os = w.os) (ht : w1.tape = w.tape) (hout : w1.output = w.output) : Inv w1 g (hset hp id ob) nx ∧ Step w g w1 g := by
  have hother : ∀ b, b ≠ p.blk → w1.heap[b]? = w.heap[b]? := fun b hb => by rw [hw, Array.getElem?_setIfInBounds_ne (Ne.symm hb)]
  have hid : id < nx := by
    obtain ⟨o, h1⟩ := hi.dom id p hp0
    exact (hi.obj id o h1).1
  refine ⟨⟨hi.nxe, fun c b o y hl => ?_, fun j o' hj => ?_, fun j q hj => ?_, hi.inj, hi.unl, hi.glob⟩, ⟨ho, ht, hout, by rw [hw]; simp, Ext.refl g, fun b _ hn => hother b fun h => hn id p hp0 h.symm, fun j q hj => .inr ⟨j, q, hj, rfl⟩, fun _ _ _ _ hl => .inl hl⟩⟩
  · have hb : b ≠ p.blk := fun h => by rw [h, hi.unl id p c o hp0] at hl; cases hl
    have := hi.lock c b o y hl
    unfold World.cell? at this ⊢
    rw [hother b hb]; exact this
  · rw [hget_hset] at hj
    split at hj
    · rename_i hjn; cases hj; subst hjn; exact ⟨hid, p, hp0, hat⟩
    · rename_i hjn
      obtain ⟨h1, q, hq, hq2⟩ := hi.obj j o' hj
      exact ⟨h1, q, hq, hq2.move (Ext.refl g) (hother _ fun h => hjn (hi.inj j id q p hq hp0 h))⟩
  · by_cases hjn : j = id
    · exact ⟨ob, by rw [hget_hset, if_pos hjn]⟩
    · obtain ⟨o', h1⟩ := hi.dom j q hj
      exact ⟨o', by rw [hget_hset, if_neg hjn]; exact h1⟩

theorem setRow_eq {b : Nat} {arr arr' : Array Value} {t : TypeId} {fr : Nat × Nat} (h : w.heap[b]? = some (.cells arr t fr)) : (w.setRow b arr').heap = w.heap.setIfInBounds b (.cells arr' t fr) := by
  apply Array.ext_getElem?
  intro k
  by_cases hk : k = b
  · subst hk
    rw [setRow_heap w k arr arr' t fr h]
    have := (Array.getElem?_eq_some_iff.1 h).1
    simp [this]
  · rw [setRow_other w b k arr' hk, Array.getElem?_setIfInBounds_ne (Ne.symm hk)]

/-- Cells of an object, some of them new. -/
theorem cellsAt_wr {arr : Array Value} {base off n : Nat} {cs xs : List V} {vs : List Value} (hc : CellsAt g arr base cs) (hx : Reps g xs vs) (hn : vs.length = n) (hl : base + cs.length ≤ arr.size) (hfit : off + xs.length ≤ cs.length) :
    CellsAt g (arr.toList.take (base + off) ++ (vs ++ arr.toList.drop (base + off + n))).toArray base (cs.take off ++ (xs ++ cs.drop (off + xs.length))) := by
  have hxl := hx.length
  intro j x hj
  rw [List.getElem?_toArray]
  by_cases h1 : j < off
  · rw [List.getElem?_append_left (by simp; omega), List.getElem?_take, if_pos h1] at hj
    obtain ⟨y, hy, hr⟩ := hc j x hj
    refine ⟨y, ?_, hr⟩
    rw [List.getElem?_append_left (by simp; omega), List.getElem?_take, if_pos (by omega), Array.getElem?_toList]
    exact hy
  · rw [List.getElem?_append_right (by simp; omega)] at hj
    have e1 : (cs.take off).length = off := by simp; omega
    rw [e1] at hj
    have e2 : (arr.toList.take (base + off)).length = base + off := by simp; omega
    rw [List.getElem?_append_right (by omega), e2]
    by_cases h2 : j < off + xs.length
    · rw [List.getElem?_append_left (by omega)] at hj
      obtain ⟨y, hy, hr⟩ := hx.get hj
      refine ⟨y, ?_, hr⟩
      rw [List.getElem?_append_left (by omega)]
      rw [show base + j - (base + off) = j - off by omega]
      exact hy
    · rw [List.getElem?_append_right (by omega), List.getElem?_drop] at hj
      obtain ⟨y, hy, hr⟩ := hc _ x hj
      refine ⟨y, ?_, hr⟩
      rw [List.getElem?_append_right (by omega), List.getElem?_drop, Array.getElem?_toList]
      rw [show base + off + n + (base + j - (base + off) - vs.length) = base + (off + xs.length + (j - off - xs.length)) by omega]
      exact hy
theorem cellV_wr {arr : Array Value} {m n : Nat} {vs : List Value} (hc : ∀ y ∈ arr.toList, cellV y) (hv : ∀ y ∈ vs, cellV y) : ∀ y ∈ (arr.toList.take m ++ (vs ++ arr.toList.drop n)).toArray.toList, cellV y := by
  intro y hy
  simp only [List.mem_append] at hy
  rcases hy with h | h | h
  · exact hc y (List.mem_of_mem_take h)
  · exact hv y h
  · exact hc y (List.mem_of_mem_drop h)
theorem size_wr {arr : Array Value} {m : Nat} {vs : List Value} (h : m + vs.length ≤ arr.size) : (arr.toList.take m ++ (vs ++ arr.toList.drop (m + vs.length))).toArray.size = arr.size := by
  simp; omega
theorem soft_size {arr arr' : Array Value} {fr : Nat × Nat} (h : soft arr fr) (hs : arr'.size = arr.size) : soft arr' fr := fun o ho => h o (by omega)

theorem store_ok (h : Sim rc nt w0 g0 w g bx s a) {t : TypeId} {n : Nat} {x y : Operand} (hn : sizeP P t = some n) (ho : o.op = .store t x y) : Acts P rc nt w0 g0 w bx a o (evStore n (opd x) (opd y) s) := by
  unfold evStore
  split
  · rename_i yv hy
    split
    · rename_i xs hxs
      obtain ⟨hvs, hxl, hxr, hxc⟩ := rep_cells (v_opd h.env hy) hxs
      split
      · rename_i e he
        obtain ⟨hv, hne⟩ := ad_opd h.env he
        have vl : (a.eval y).cells.toList.length = n := by simp [hvs]
        split
        · rename_i s1 hs1
          have run : ∀ (b off : Nat) (arr : Array Value) (u : TypeId) (fr : Nat × Nat), a.eval x = .pointer (some ⟨b, off, none⟩) → w.heap[b]? = some (.cells arr u fr) → soft arr fr → off + n ≤ arr.size →
              (execOp a.eval o).run P w = .ok .skip (w.setRow b (arr.toList.take off ++ ((a.eval y).cells.toList ++ arr.toList.drop (off + n))).toArray) := by
            intro b off arr u fr hp hb hf hfit
            simp only [execOp, ho, Instr.storeAt, Instr.sureAddr, hp, Sem.run_bind, Sem.run_pure, Result.andThen_ok, run_store' hn hvs hxc hb hf hfit]
          cases e with
          | box cs => exact absurd rfl (hne cs)
          | v ev =>
            cases ev with
            | ptr id off =>
              have hs1' : s.stp id off xs (hget s.hp id) = some s1 := hs1
              unfold St.stp at hs1'
              split at hs1'
              · rename_i u z cs hob
                split at hs1'
                · rename_i cs' hwr
                  cases hs1'
                  obtain ⟨hfit, rfl⟩ := wr_some hwr
                  simp only [EnvAt, Rep] at hv
                  obtain ⟨hid, b, k, hp, hpe⟩ := hv
                  obtain ⟨_, p, hpp, hesz, arr, fr, hb, hf, hs, hc, hlen, hcells⟩ := h.inv.obj id _ hob
                  obtain ⟨rfl, rfl⟩ := hpe p hpp
                  have hr := run p.blk (p.base + off) arr u fr hp hb hf (by omega)
                  have hsz : (arr.toList.take (p.base + off) ++ ((a.eval y).cells.toList ++ arr.toList.drop (p.base + off + n))).toArray.size = arr.size := by
                    have := size_wr (arr := arr) (m := p.base + off) (vs := (a.eval y).cells.toList) (by omega)
                    rw [vl] at this; exact this
                  obtain ⟨hin, st⟩ := upd_inv (w1 := w.setRow p.blk (arr.toList.take (p.base + off) ++ ((a.eval y).cells.toList ++ arr.toList.drop (p.base + off + n))).toArray) h.inv hpp (setRow_eq hb)
                    (ob := .cells u z (cs.take off ++ (xs ++ cs.drop (off + xs.length))))
                    ⟨hesz, _, fr, setRow_heap w p.blk arr _ u fr hb, soft_size hf hsz, by omega, cellV_wr hc hxc, by simp; omega, cellsAt_wr hcells hxr vl (by omega) hfit⟩ rfl rfl rfl
                  exact Acts.of_skip hr (h.go st hin)
                · cases hs1'
              · cases hs1'
            | _ => cases hs1
          | lp u off =>
            have hs1' : s.stl u off xs (boxOf (lget s.env u)) = some s1 := hs1
            cases hl : lget s.env u with
            | none => rw [hl] at hs1'; cases hs1'
            | some e' =>
              rw [hl] at hs1'
              cases e' with
              | v _ => cases hs1'
              | lp _ _ => cases hs1'
              | box cs =>
                unfold St.stl at hs1'
                have hs2 : (match wr cs off xs with | some cs' => some (s.put (some u) (.box cs')) | none => none) = some s1 := hs1'
                split at hs2
                · rename_i cs' hwr
                  cases hs2
                  obtain ⟨hfit, rfl⟩ := wr_some hwr
                  obtain ⟨b, hp, hbx⟩ := hv
                  have hbx := hbx cs hl
                  obtain ⟨b', hb', hval, arr, ty, fr, hb, hf, hs, hc, hcells⟩ := h.env.at_ u _ hl
                  rw [hbx] at hb'; cases hb'
                  have hr := run b off arr ty fr hp hb hf (by omega)
                  have hsz : (arr.toList.take off ++ ((a.eval y).cells.toList ++ arr.toList.drop (off + n))).toArray.size = arr.size := by
                    have := size_wr (arr := arr) (m := off) (vs := (a.eval y).cells.toList) (by omega)
                    rw [vl] at this; exact this
                  have hcw := cellsAt_wr (base := 0) (off := off) hcells hxr vl (by omega) hfit
                  simp only [Nat.zero_add] at hcw
                  generalize harr : (arr.toList.take off ++ ((a.eval y).cells.toList ++ arr.toList.drop (off + n))).toArray = arr' at *
                  have hcv : ∀ z ∈ arr'.toList, cellV z := by rw [← harr]; exact cellV_wr hc hxc
                  have hother : ∀ k, k ≠ b → (w.setRow b arr').heap[k]? = w.heap[k]? := fun k hk => setRow_other w b k arr' hk
                  have hsame : (w.setRow b arr').heap[b]? = some (.cells arr' ty fr) := setRow_heap w b arr arr' ty fr hb
                  have hnotL : ∀ c k, g.L c b k = none := fun c k => h.env.unl u b c k hbx
                  have hbge := h.own u b hbx
                  have hin : Inv (w.setRow b arr') g s.hp s.nx := by
                    refine ⟨h.inv.nxe, fun c b' k y hl => ?_, fun j ob hob => ?_, h.inv.dom, h.inv.inj, h.inv.unl, h.inv.glob⟩
                    · have hne : b' ≠ b := fun he => by rw [he, hnotL] at hl; cases hl
                      have := h.inv.lock c b' k y hl
                      unfold World.cell? at this ⊢
                      rw [hother b' hne]; exact this
                    · obtain ⟨h1, q, hq, hq2⟩ := h.inv.obj j ob hob
                      exact ⟨h1, q, hq, hq2.move (Ext.refl g) (hother _ (h.env.hp u b j q hbx hq))⟩
                  have henv : Env (w.setRow b arr') g bx ((u, E.box (cs.take off ++ (xs ++ cs.drop (off + xs.length)))) :: s.env) a.tmps := by
                    refine ⟨fun t e' ht => ?_, fun t b' ht => ?_, h.env.inj, h.env.hp, h.env.unl⟩
                    · by_cases htu : u = t
                      · subst htu
                        rw [lget_cons_same] at ht
                        cases ht
                        exact ⟨b, hbx, hval, arr', ty, fr, hsame, soft_size hf hsz, by simp; omega, hcv, hcw⟩
                      · rw [lget_cons_ne _ _ htu] at ht
                        have hat := h.env.at_ t e' ht
                        cases e' with
                        | v z => exact hat
                        | box ds =>
                          obtain ⟨b', h1, h2, arr2, t2, fr2, h3, h4⟩ := hat
                          refine ⟨b', h1, h2, arr2, t2, fr2, (hother b' fun he => ?_).trans h3, h4⟩
                          subst he
                          exact htu (h.env.inj u t b' hbx h1)
                        | lp u2 off2 =>
                          obtain ⟨b', h1, h2⟩ := hat
                          refine ⟨b', h1, fun ds hds => ?_⟩
                          by_cases h3 : u = u2
                          · subst h3; exact h2 cs hl
                          · rw [lget_cons_ne _ _ h3] at hds; exact h2 ds hds
                    · by_cases htu : u = t
                      · subst htu; exact ⟨_, lget_cons_same _ _ _⟩
                      · rw [lget_cons_ne _ _ htu]; exact h.env.box t b' ht
                  have hstep : Step w0 g0 (w.setRow b arr') g :=
                    ⟨h.step.os, h.step.tape, h.step.output, by rw [setRow_size]; exact h.step.size, h.step.ext,
                      fun k hk hn => (hother k (by omega)).trans (h.step.keep k hk hn), h.step.hpNew, h.step.lNew⟩
                  exact Acts.of_skip hr ⟨hin, henv, h.size, h.dfs, hstep, h.own, h.rcf⟩
                · cases hs2
        · exact Acts.none
      · exact Acts.none
    · exact Acts.none
  · exact Acts.none
end
end Go.Air
