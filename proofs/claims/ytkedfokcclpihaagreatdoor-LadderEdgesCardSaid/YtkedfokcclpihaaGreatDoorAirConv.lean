/- AIR: text to bytes, deferred calls. -/
import Derived.Test.YtkedfokcclpihaaGreatDoorAirMaps
set_option linter.unusedSectionVars false
set_option linter.unusedSimpArgs false
set_option linter.unusedVariables false
set_option linter.unnecessarySimpa false
namespace Go.Air
variable [GL]

section
variable {P : Program} {rc : Bool} {nt : Nat} {w0 : World} {g0 : G} {w w1 : World} {g : G} {bx : Nat → Option Nat} {s s' : St} {a : Act} {o : Oper}

theorem freeze_new (w : World) (arr : Array Value) (e : TypeId) :
    ((w.alloc (.cells arr e)).freeze ⟨w.heap.size, arr.size, none⟩ 1).heap = w.heap.push (.cells arr e (arr.size, arr.size + 1)) := by
  unfold World.freeze
  rw [if_neg (by decide)]
  have halloc : (w.alloc (.cells arr e)).heap = w.heap.push (.cells arr e) := rfl
  dsimp only
  rw [halloc]
  apply Array.ext_getElem?
  intro k
  rw [Array.getElem?_modify]
  by_cases hk : w.heap.size = k
  · subst hk
    simp
  · rw [if_neg hk, Array.getElem?_push, Array.getElem?_push, if_neg (Ne.symm hk), if_neg (Ne.symm hk)]

theorem run_s2b (t : List UInt8) (e : TypeId) : ∃ w1 arr cap, (Conv.stringToBytes e ⟨t.toArray⟩).run P w = .ok (.slice (some ⟨w.heap.size, 0, none⟩) t.length cap) w1 ∧ t.length ≤ cap ∧ arr.size = cap ∧
    w1.heap = w.heap.push (.cells arr e (arr.size, arr.size + 1)) ∧ w1.os = w.os ∧ w1.tape = w.tape ∧ w1.output = w.output ∧ arr.toList = (t.map fun b => Value.int .u8 b.toNat) ++ List.replicate (cap - t.length) (.int .u8 0) := by
  have hsz : (⟨t.toArray⟩ : ByteArray).size = t.length := by simp [ByteArray.size]
  generalize hcap : (Question.appendCap t.length 0 e).cut (w.tape w.drawn (.appendCap t.length 0 e)) = cap
  have hge : t.length ≤ cap := by rw [← hcap]; exact Nat.le_add_right _ _
  generalize harr : ((⟨t.toArray⟩ : ByteArray).data.map fun b => Value.int .u8 b.toNat) ++ Array.replicate (cap - t.length) (Value.int .u8 0) = arr
  have hl : arr.toList = (t.map fun b => Value.int .u8 b.toNat) ++ List.replicate (cap - t.length) (.int .u8 0) := by rw [← harr]; simp
  have hs : arr.size = cap := by rw [← Array.length_toList, hl]; simp; omega
  refine ⟨(w.drew.alloc (.cells arr e)).freeze ⟨w.heap.size, arr.size, none⟩ 1, arr, cap, ?_, hge, hs, freeze_new w.drew arr e, rfl, rfl, rfl, hl⟩
  have hshape : (w.drew.alloc (.cells arr e)).shape? w.heap.size = some (e, arr.size) := by
    unfold World.shape?
    have : (w.drew.alloc (.cells arr e)).heap[w.heap.size]? = some (.cells arr e (0, 0)) := by show (w.heap.push _)[w.heap.size]? = _; simp
    rw [this]
  have hch : (choose (.appendCap t.length 0 e)).run P w = .ok cap w.drew := by
    rw [run_choose_drew]
    simp [Question.forced, hcap]
  simp only [Conv.stringToBytes, hsz, Sem.run_bind, hch, Result.andThen_ok, harr, newRow, run_newObj_alloc, Sem.run_pure, markStringish, run_shape]
  have h2 : (w.drew.alloc (.cells arr e)).shape? w.drew.heap.size = some (e, arr.size) := hshape
  simp only [h2, run_freeze]
  rfl

theorem s2b_ok (h : Sim rc nt w0 g0 w g bx s a) {src dst e : TypeId} {x : Operand} (hs : P.underlying src = some .string) (hd : P.underlying dst = some (.slice e)) (hu : P.underlying e = some (.int .u8)) (ho : o.op = .convert src dst x) :
    Acts P rc nt w0 g0 w bx a o (evConv (.s2b e) (opd x) s) := by
  unfold evConv
  split
  · rename_i y hy
    have hr := v_opd h.env hy
    show Acts P rc nt w0 g0 w bx a o (convS2b e s y)
    unfold convS2b
    split
    · rename_i t
      simp only [Rep] at hr
      obtain ⟨w1, arr, cap, hrun, hge, hsz, hw, hos, htp, hout, hl⟩ := run_s2b (P := P) (w := w) t e
      rw [lenR_eq, mapR_eq]
      have hc : ∀ y ∈ arr.toList, cellV y := by
        intro y hy
        rw [hl] at hy
        rcases List.mem_append.1 hy with h | h
        · obtain ⟨_, _, rfl⟩ := List.mem_map.1 h; trivial
        · rw [(List.mem_replicate.1 h).2]; trivial
      have hat : CellsAt g arr 0 (t.map byteV) := fun j q hj => by
        obtain ⟨yv, hyv, hq⟩ := (byteV_reps g t).get hj
        refine ⟨yv, ?_, hq⟩
        rw [Nat.zero_add, ← Array.getElem?_toList, hl, List.getElem?_append_left (List.getElem?_eq_some_iff.1 hyv).1]
        exact hyv
      have hsoft : soft arr (arr.size, arr.size + 1) := fun k hk h => by have := h.1; simp at this; omega
      obtain ⟨h1, hext⟩ := new_ok (w1 := w1) (p := ⟨w.heap.size, 0, arr.size, 1⟩) (ob := .cells e 1 (t.map byteV)) h hw rfl
        (objAt_new (w := w) hw hsoft hc hat (by rw [List.length_map]; omega)) hos htp hout
      refine Acts.of_value ?_ h1 (rep_new_msl (p := ⟨w.heap.size, 0, arr.size, 1⟩) rfl s.nx t.length cap hge (by show cap * 1 = arr.size; omega))
      simp only [execOp, ho, hr, convert, Sem.run_bind, run_underlying hs, run_underlying hd, run_underlying hu, Result.andThen_ok, hrun, Sem.run_pure]
    · exact Acts.none
  · exact Acts.none

theorem defer_ok (h : Sim rc nt w0 g0 w g bx s a) {c : Call} {f : Operand} (ho : o.op = .defer c) (hc : c.callee = .value f) : Acts P rc nt w0 g0 w bx a o (evDefer (opd f) (c.args.toList.map opd) s) := by
  unfold evDefer
  split
  · rename_i k x y hf
    split
    · rename_i xs hxs
      have hfr := v_opd h.env hf
      have hxr := vs_opd h.env _ hxs
      simp only [Rep] at hfr
      obtain ⟨A, B, hv, hA, hB⟩ := hfr
      intro e s1 heq next Q hn
      cases heq
      have hrun : (execOp a.eval o).run P w = .ok (.defer { target := .fn (.func k) B, args := A ++ c.args.map a.eval }) w := by
        simp only [execOp, ho, resolve, hc, hv, Deferred.ofValue, Sem.run_bind, Sem.run_pure, Result.andThen_ok]
      unfold Oper.wp
      rw [hrun]
      refine hn undef w g { a with defers := { target := .fn (.func k) B, args := A ++ c.args.map a.eval } :: a.defers } ⟨h.inv, h.env, h.size, ?_, h.step, h.own, h.rcf⟩ ?_
      · exact .cons ⟨k, x, y, A, B, c.args.map a.eval, rfl, rfl, rfl, hA, hB, by simpa using hxr⟩ h.dfs
      · show Rep _ _ _
        simp only [Rep]; exact ⟨#[], rfl, by simp [Reps]⟩
    · exact Acts.none
  · exact Acts.none
end
end Go.Air
