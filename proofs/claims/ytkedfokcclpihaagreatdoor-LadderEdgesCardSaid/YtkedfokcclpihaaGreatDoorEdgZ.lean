/-
  LadderEdges: from the walk to the row. For every slice of bools the call returns true, and the slice reads as it did. Conditions: those of the row (the listed tables, of which the proof needs none; that MaxLen holds some int, which the world's shape gives).
-/
import Derived.Test.YtkedfokcclpihaaGreatDoorEdgW
import Derived.Test.YtkedfokcclpihaaGreatDoorRows
import Derived.ProofKit
import Derived.Lay
import Derived.LaidLaws
import Derived.LaidByTextLater
import Derived.Deep.Grids
import Derived.WideKeyArgs
import Derived.Shelf.Vars
set_option linter.unusedSectionVars false
set_option linter.unusedSimpArgs false
set_option linter.unusedVariables false
set_option linter.unnecessarySimpa false
namespace Go.Air
open Go.Proofs Go.Proofs.YtkedfokcclpihaaGreatDoor Go.ChangeShapes Go.WideShapes Go.ChangeAt Go.RowKit Go.Deep
set_option maxRecDepth 100000
section
variable {W : World}

/-- Every cell that is there, as the ghost of the call's start. -/
def ghost0 (W : World) : G := { L := fun _ b o => W.cell? ⟨b, o, none⟩, hp := fun _ => none, nx := 0 }

theorem inv0 (W : World) (hm : ∃ m, W.cell? ⟨0, 0, none⟩ = some (.int .i64 m)) : Inv W (ghost0 W) .nil 0 where
  nxe := rfl
  lock := fun _ _ _ _ h => h
  obj := fun _ _ h => by cases h
  dom := fun _ _ h => by cases h
  inj := fun _ _ _ _ h => by cases h
  unl := fun _ _ _ _ h => by cases h
  glob := hm

/-- The row of bools at the call's start. -/
theorem repEls_bools (W : World) (b o n : Nat) (B : Nat → Bool) (h : ∀ i, i < n → W.cell? ⟨b, o + i, none⟩ = some (.bool (B i))) :
    RepEls (ghost0 W) false 1 b o ((List.range n).map fun i => .bool (B i)) := by
  induction n generalizing o B with
  | zero => trivial
  | succ n ih =>
    rw [List.range_succ_eq_map, List.map_cons, List.map_map]
    refine ⟨⟨.bool (B 0), by simp [Rep], rfl, rfl, fun y hy => ?_, ?_⟩, ?_⟩
    · simp [Value.cells] at hy
      subst hy
      exact trivial
    · intro i y hy
      match i, hy with
      | 0, hy =>
        simp [Value.cells] at hy
        subst hy
        exact h 0 (by omega)
      | i + 1, hy => simp [Value.cells] at hy
    · exact ih (o + 1) (fun i => B (i + 1)) fun i hi => by
        have := h (i + 1) (by omega)
        rwa [show o + (i + 1) = o + 1 + i by omega] at this

/-- What was there is as it was. -/
theorem Step.below {w w' : World} {g g' : G} (h : Step w g w' g') (h0 : ∀ id, g.hp id = none) : Below w.heap.size w w' :=
  ⟨h.os, h.tape, h.output, h.size, fun k hk => h.keep k hk fun id p hp => by rw [h0] at hp; cases hp⟩

/-- The call: true, and nothing that was there has turned. -/
theorem edg_calls (a : Option Addr) (b o n cap : Nat) (B : Nat → Bool) (ha : n ≠ 0 → a = some ⟨b, o, none⟩) (hn : n ≤ cap) (h : ∀ i, i < n → W.cell? ⟨b, o + i, none⟩ = some (.bool (B i)))
    (hm : ∃ m, W.cell? ⟨0, 0, none⟩ = some (.int .i64 m)) :
    Calls Tryz.prog 3 #[.slice a n cap] W fun e w' => e = .returned (.bool true) ∧ Below W.heap.size W w' := by
  have hw := edg_walk (w0 := W) (g0 := ghost0 W) rfl ((List.range n).map fun i => .bool (B i)) (fun x hx => by
    obtain ⟨i, _, rfl⟩ := List.mem_map.1 hx
    exact ⟨_, rfl⟩)
  refine (calls_of_cto Tryz.func3 T.c3 (inv0 W hm) (xs := [rowV ((List.range n).map fun i => .bool (B i))]) (args := #[.slice a n cap]) ⟨_, [], rfl, ?_, rfl⟩ hw).mono fun e w' he => ?_
  · refine ⟨a, cap, b, o, by simp, by simpa using hn, fun hne => ha fun e => ?_, repEls_bools W b o n B h⟩
    subst e
    exact hne rfl
  · cases e with
    | returned u =>
      obtain ⟨g', hu, hs⟩ := he
      simp only [Rep] at hu
      subst hu
      exact ⟨rfl, hs.below fun _ => rfl⟩
    | _ => exact he.elim
end

theorem own : ownKnob Tryz.prog.godebug = none := by kernel_rfl
theorem laidOut : laidOutB Tryz.prog = true := by kernel_rfl
theorem cells4 : Tryz.prog.cellsOf 4 = 1 := by kernel_rfl

theorem lifted (os : Os) (started : os.Started) (H : Type) (enc : TypeId × Value → H) :
    ReturnsInHanded {} Tryz.checked os 3 .any (fun w args => (Rows.ladderEdgesSpec.pre enc Tryz.prog Tryz.f3 [] false w args ∧ laidMetH Tryz.prog Rows.ladderEdgesRow.laid w) ∧ sizedMet enc Tryz.prog Tryz.f3 (OpenSpec.ofChange Rows.ladderEdgesSpec) false w args)
      (Rows.ladderEdgesSpec.post enc Tryz.prog Tryz.f3 false true false false) := by
  refine returnsInHanded_of_calls own started (by kernel_rfl)
    (ChangeSpec.witness_shaped (enc := enc) (C := Tryz.checked) (os := os) (s := Rows.ladderEdgesSpec) (fn := Tryz.f3) (f := 3) (conds := []) (apart := false) (X := fun w _ => laidMetH Tryz.prog Rows.ladderEdgesRow.laid w) false (World.laidAll Tryz.prog os Rows.ladderEdgesRow.laid) #[.slice none 0 0] 8 (World.laidAll_os _ _ _)
      (World.shaped_of_ZipB (by kernel_rfl) (by kernel_rfl)) (by kernel_rfl) (by kernel_rfl) (by kernel_rfl)
      (by rw [MakeChecks.laidMetH_plain _ _ _ (by kernel_rfl)]; exact laidMet_laidAll _ (by kernel_rfl) (by kernel_rfl))) ?_
  intro w tape i _ hsh _ hok hpre _
  obtain ⟨_, _, _, fn', hfn', _, _, _, _, hval⟩ := hok
  obtain rfl : Tryz.f3 = fn' := Option.some.inj (Tryz.func3.symm.trans hfn')
  obtain ⟨⟨⟨ds, gs, before, hw, _⟩, _⟩, _⟩ := hpre
  have hW := DataW.Whole.of_heap (w' := w.forCall tape i) (by rfl) hw
  generalize w.forCall tape i = W at hsh hval hW
  clear hw hfn'
  have hW' := hW
  obtain ⟨p, q, hA0, hV, rfl, hfz, _⟩ := hW
  have hA : DataW.TrodAll enc Tryz.prog W 0 (fun _ => true) true Tryz.f3.params.toList i.args.toList ds p := hA0
  rw [Tryz.params3] at hA hval
  obtain ⟨v0, d0, hargs, rfl, h0⟩ := trodAll_one hA
  rw [hargs] at hval hW' ⊢
  obtain ⟨rfl, rfl⟩ := trodVars_none hV
  obtain ⟨a0, len, cap, rfl⟩ := okWide_slice Tryz.underlying22 (hval 0 22 v0 rfl rfl)
  have h0k := h0
  obtain ⟨fuel, hf⟩ := h0
  simp only [List.append_nil] at hW' hfz
  have hlt : ∀ x ∈ p, x.block < W.heap.size := fun x hx => hW'.lt x (by simp [hx])
  obtain ⟨m, hm⟩ := cell_of_shapedOpen_int (P := Tryz.prog) (g := 0) (t := 3) (zero := #[.int .i64 0]) hsh (of_decide_eq_true (by kernel_rfl)) (by kernel_rfl) rfl (by kernel_rfl) (by kernel_rfl) Tryz.underlying3
  have hc : Calls Tryz.prog 3 #[.slice a0 len cap] W fun e w' => e = .returned (.bool true) ∧ Below W.heap.size W w' := by
    rcases open_bools Tryz.underlying22 Tryz.underlying4 cells4 hf with ⟨hcs, _⟩ | ⟨a, len', cap', B, hcs, _, hl, _, _, hB⟩
    · simp [Value.cells] at hcs
      obtain ⟨rfl, rfl, rfl⟩ := hcs
      exact edg_calls none 0 0 0 0 (fun _ => false) (fun h => absurd rfl h) (Nat.le_refl _) (fun i hi => absurd hi (Nat.not_lt_zero _)) ⟨m, hm⟩
    · simp [Value.cells] at hcs
      obtain ⟨rfl, rfl, rfl⟩ := hcs
      obtain ⟨b, o, k⟩ := a
      have hk : len ≠ 0 → k = none := fun h0 => by
        have h1 := hB 0 (by omega)
        cases k with
        | none => rfl
        | some k => simp [World.cell?, Addr.add] at h1; split at h1 <;> simp_all
      exact edg_calls _ b o len cap B (fun h0 => by rw [hk h0]) hl (fun i hi => by
        have h1 := hB i (by omega)
        have h2 := hk (by omega)
        subst h2
        unfold Addr.add at h1
        split at h1
        · next e => subst e; exact h1
        · exact h1) ⟨m, hm⟩
  refine hc.mono fun e W' ⟨he, hb⟩ => ?_
  subst he
  refine ChangeSpec.post_blind (W' := W') ⟨_, _, _, [], p, [], hW', trodAll_mk1 (shut_bool Tryz.underlying4 _), ?_, rfl, hb.frame _, fun h => by cases h⟩
  exact trodAll_mk1 (WideElems.Trod_stays laidOut (by kernel_rfl) (of_decide_eq_true (by kernel_rfl)) h0k (fun x hx => hb.same (hlt x hx)) (fun x hx => by simpa using hlt x hx))
end Go.Air
