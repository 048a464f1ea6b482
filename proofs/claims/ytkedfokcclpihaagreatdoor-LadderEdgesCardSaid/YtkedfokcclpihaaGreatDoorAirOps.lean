/- AIR: operands, addresses, loads. -/
import Derived.Test.YtkedfokcclpihaaGreatDoorAirRep
import Derived.Test.YtkedfokcclpihaaGreatDoorAirBase
import Derived.Tactics
import Derived.WideLaws
import Derived.WalkKit
import Derived.Laws.Strings
import Derived.Laws.BytesString
import Derived.Laws.Slices
import Derived.Laws.Tables
import Derived.Laws.Append
import Derived.MapKept
set_option linter.unusedSectionVars false
set_option linter.unusedSimpArgs false
set_option linter.unusedVariables false
set_option linter.unnecessarySimpa false
namespace Go.Air
variable [GL]

theorem cellV_of_leafB {v : Value} (h : leafB v = true) : cellV v := by cases v <;> simp_all [leafB, cellV]

theorem rep_ofLeaf (g : G) (v : Value) (h : leafB v = true) : Rep g (ofLeaf v) v := by
  cases v with
  | pointer a => cases a <;> simp [ofLeaf, ofPtr, Rep, cellV]
  | map r => cases r <;> simp [ofLeaf, ofMap, Rep, cellV]
  | slice a l c =>
    cases a with
    | none => cases l <;> cases c <;> simp [ofLeaf, ofSlice, Rep, cellV]
    | some a => simp [ofLeaf, Rep, cellV]
  | func f a b =>
    show Rep g (ofFn f a b) (.func f a b)
    unfold ofFn
    split
    · rename_i h1 h2
      simp only [Rep, Reps]
      exact ⟨a, b, rfl, h1, h2⟩
    · simp [Rep, cellV]
  | agg _ => simp [leafB] at h
  | tuple _ => simp [leafB] at h
  | _ => simp [ofLeaf, Rep, cellV]
theorem reps_ofLeaf (g : G) : ∀ l : List Value, l.all leafB = true → Reps g (l.map ofLeaf) l
  | [], _ => by simp [Reps]
  | v :: r, h => by
    simp only [List.all_cons, Bool.and_eq_true] at h
    simp only [List.map_cons, Reps]
    exact ⟨v, r, rfl, rep_ofLeaf g v h.1, reps_ofLeaf g r h.2⟩
theorem rep_ofVal (g : G) {v : Value} {x : V} (h : ofVal v = some x) : Rep g x v := by
  cases v with
  | agg cs =>
    simp only [ofVal] at h
    split at h
    · rename_i ha
      cases h
      simp only [Rep]
      exact ⟨cs, rfl, reps_ofLeaf g _ ha, fun y hy => cellV_of_leafB (List.all_eq_true.1 ha y hy)⟩
    · cases h
  | tuple vs =>
    simp only [ofVal] at h
    split at h
    · rename_i ha
      cases h
      simp only [Rep]
      exact ⟨_, rfl, reps_ofLeaf g _ ha⟩
    · cases h
  | _ => cases h; exact rep_ofLeaf g _ rfl

section
variable {P : Program} {w : World} {g : G} {bx : Nat → Option Nat} {s : St} {a : Act}

theorem adOf_some {i : Nat} {r : Option E} {e : E} (h : adOf i r = some e) : (∃ cs, r = some (.box cs) ∧ e = .lp i 0) ∨ (r = some e ∧ ∀ cs, e ≠ .box cs) := by
  unfold adOf at h
  split at h
  · rename_i cs
    cases h
    exact .inl ⟨cs, rfl, rfl⟩
  · rename_i hne
    subst h
    exact .inr ⟨rfl, fun cs hc => hne cs (by rw [hc])⟩

/-- What stands for an operand: a value or an address. -/
theorem ad_opd (he : Env w g bx s.env a.tmps) {x : Operand} {e : E} (h : s.ad (opd x) = some e) : EnvAt w g bx s.env (a.eval x) 0 e ∧ ∀ cs, e ≠ .box cs := by
  cases x with
  | tmp t =>
    have h' : adOf t (lget s.env t) = some e := h
    rcases adOf_some h' with ⟨cs, hl, rfl⟩ | ⟨hl, hn⟩
    · obtain ⟨b, hb, hv, _⟩ := he.at_ t _ hl
      exact ⟨⟨b, hv, fun cs' hc => hb⟩, fun _ => by simp⟩
    · refine ⟨?_, hn⟩
      have := he.at_ t e hl
      cases e with
      | v x => exact this
      | box cs => exact absurd rfl (hn cs)
      | lp u off => exact this
  | const v =>
    cases ho : ofVal v with
    | none => simp [opd, ho, cAtom, St.ad] at h
    | some y =>
      simp only [opd, ho, cAtom, St.ad, Option.some.injEq] at h
      subst h
      exact ⟨rep_ofVal g ho, fun _ => by simp⟩
  | global i =>
    have h' : some (E.v .undef) = some e := h
    cases h'
    exact ⟨by simp [EnvAt, Rep, Act.eval, cellV], fun _ => by simp⟩
  | func f =>
    have h' : some (E.v (.fn (.func f) [] [])) = some e := h
    cases h'
    exact ⟨by simp [EnvAt, Rep, Reps, Act.eval], fun _ => by simp⟩

theorem vOf_some {r : Option E} {x : V} (h : vOf r = some x) : r = some (.v x) := by
  unfold vOf at h
  split at h
  · cases h; rfl
  · cases h

theorem v_opd (he : Env w g bx s.env a.tmps) {x : Operand} {y : V} (h : s.v (opd x) = some y) : Rep g y (a.eval x) := by
  cases x with
  | tmp t =>
    have h' : vOf (lget s.env t) = some y := h
    exact he.at_ t _ (vOf_some h')
  | const v =>
    cases ho : ofVal v with
    | none => simp [opd, ho, cAtom, St.v] at h
    | some z =>
      simp only [opd, ho, cAtom, St.v, Option.some.injEq] at h
      subst h
      exact rep_ofVal g ho
  | global i =>
    have h' : some V.undef = some y := h
    cases h'
    simp [Rep, Act.eval, cellV]
  | func f =>
    have h' : some (V.fn (.func f) [] []) = some y := h
    cases h'
    simp [Rep, Reps, Act.eval]

theorem consO_some {x : Option V} {xs : Option (List V)} {l : List V} (h : consO x xs = some l) : ∃ y ys, x = some y ∧ xs = some ys ∧ l = y :: ys := by
  unfold consO at h
  split at h
  · split at h
    · cases h; exact ⟨_, _, rfl, rfl, rfl⟩
    · cases h
  · cases h
theorem vs_opd (he : Env w g bx s.env a.tmps) : ∀ (l : List Operand) {ys : List V}, s.vs (l.map opd) = some ys → Reps g ys (l.map a.eval)
  | [], ys, h => by
    have h' : some ([] : List V) = some ys := h
    cases h'
    simp [Reps]
  | x :: r, ys, h => by
    have h' : consO (s.v (opd x)) (s.vs (r.map opd)) = some ys := h
    obtain ⟨y, zs, hy, hz, rfl⟩ := consO_some h'
    simp only [List.map_cons, Reps]
    exact ⟨_, _, rfl, v_opd he hy, vs_opd he r hz⟩

/-! ### addresses -/
theorem addr_add (b o n : Nat) : (⟨b, o, none⟩ : Addr).add n = ⟨b, o + n, none⟩ := by
  unfold Addr.add
  split
  · rename_i h; simp [h]
  · rfl
theorem cell_arr {arr : Array Value} {t : TypeId} {fr : Nat × Nat} {b : Nat} (h : w.heap[b]? = some (.cells arr t fr)) (o : Nat) : w.cell? ⟨b, o, none⟩ = arr[o]? := by
  simp [World.cell?, h]
theorem Reps.of_cells {arr : Array Value} {base : Nat} {cs : List V} (h : CellsAt g arr base cs) (hl : base + cs.length ≤ arr.size) : Reps g cs ((arr.toList.drop base).take cs.length) := by
  refine Reps.of_get (by simp; omega) fun i x hx => ?_
  obtain ⟨y, hy, hr⟩ := h i x hx
  have hi : i < cs.length := (List.getElem?_eq_some_iff.1 hx).1
  refine ⟨y, ?_, hr⟩
  rw [List.getElem?_take, if_pos hi, List.getElem?_drop, Array.getElem?_toList]
  exact hy

/-- The cells that an address leads to stand there. -/
theorem at_ok (hi : Inv w g s.hp s.nx) {v : Value} {t : Nat} {e : E} {cs : List V} (hv : EnvAt w g bx s.env v t e) (henv : Env w g bx s.env a.tmps) (h : s.at_ e = some cs) :
    ∃ b o ys, v = .pointer (some ⟨b, o, none⟩) ∧ Reps g cs ys ∧ (∀ y ∈ ys, cellV y) ∧ ∀ j y, ys[j]? = some y → w.cell? ⟨b, o + j, none⟩ = some y := by
  cases e with
  | box cs => cases h
  | v x =>
    cases x with
    | iptr ds =>
      have h' : some ds = some cs := h
      cases h'
      simp only [EnvAt, Rep] at hv
      obtain ⟨c, b, o, ys, hv, hr, hc, hl⟩ := hv
      exact ⟨b, o, ys, hv, hr, hc, fun j y hj => hi.lock c b (o + j) y (hl j y hj)⟩
    | ptr id off =>
      have h' : dropO off (objCells (hget s.hp id)) = some cs := h
      cases ho : hget s.hp id with
      | none => rw [ho] at h'; cases h'
      | some o =>
        rw [ho] at h'
        cases o with
        | map es => cases h'
        | cells t z ds =>
          have h' : some (dropR off ds) = some cs := h'
          cases h'
          rw [dropR_eq]
          simp only [EnvAt, Rep] at hv
          obtain ⟨_, b0, k0, hv, hpe⟩ := hv
          obtain ⟨_, p, hp, hat⟩ := hi.obj id _ ho
          obtain ⟨rfl, rfl⟩ := hpe p hp
          obtain ⟨_, arr, fr, hb, hf, hs, hc, hlen, hcells⟩ := hat
          refine ⟨p.blk, p.base + off, ((arr.toList.drop p.base).take ds.length).drop off, hv, (Reps.of_cells hcells (by omega)).drop off, fun y hy => hc y ?_, fun j y hj => ?_⟩
          · exact List.mem_of_mem_drop (List.mem_of_mem_take (List.mem_of_mem_drop hy))
          · rw [cell_arr hb]
            rw [List.getElem?_drop, List.getElem?_take] at hj
            split at hj
            · rw [List.getElem?_drop, Array.getElem?_toList] at hj
              rw [Nat.add_assoc]; exact hj
            · cases hj
    | _ => cases h
  | lp u off =>
    have h' : dropO off (boxOf (lget s.env u)) = some cs := h
    cases hb : lget s.env u with
    | none => rw [hb] at h'; cases h'
    | some e =>
      rw [hb] at h'
      cases e with
      | v x => cases h'
      | lp _ _ => cases h'
      | box ds =>
        have h' : some (dropR off ds) = some cs := h'
        cases h'
        rw [dropR_eq]
        obtain ⟨b, hve, hbx⟩ := hv
        have hbx := hbx ds hb
        obtain ⟨b', hb', _, arr, t', fr, hh, hf, hs, hc, hcells⟩ := henv.at_ u _ hb
        rw [hbx] at hb'; cases hb'
        have hr := Reps.of_cells hcells (by omega)
        simp only [List.drop_zero] at hr
        refine ⟨b, off, (arr.toList.take ds.length).drop off, hve, hr.drop off, fun y hy => hc y (List.mem_of_mem_take (List.mem_of_mem_drop hy)), fun j y hj => ?_⟩
        rw [cell_arr hh]
        rw [List.getElem?_drop, List.getElem?_take] at hj
        split at hj
        · rw [Array.getElem?_toList] at hj; exact hj
        · cases hj
end
end Go.Air

/- AIR: the operations that read alone. -/
namespace Go.Air
variable [GL]

theorem lt_of_blt {a b : Nat} (h : Nat.blt a b = true) : a < b := by rw [Nat.blt_eq] at h; exact h

/-- What an operation's value is, beside what the abstract machine has. -/
def ER (w : World) (g : G) (bx : Nat → Option Nat) (env : List (Nat × E)) (v : Value) (e : E) : Prop := EnvAt w g bx env v 0 e ∧ ∀ cs, e ≠ .box cs

section
variable {P : Program} {w : World} {g : G} {bx : Nat → Option Nat} {s s' : St} {a : Act} {o : Oper} {e : E}

theorem ER.v {x : V} {v : Value} (h : Rep g x v) : ER w g bx s.env v (.v x) := ⟨h, fun _ => by simp⟩

/-- An operation that reads alone. -/
def Reads (P : Program) (w : World) (g : G) (bx : Nat → Option Nat) (s : St) (a : Act) (o : Oper) (r : OpR) : Prop :=
  ∀ e s', r = some (e, s') → s' = s ∧ ∃ v, (execOp a.eval o).run P w = .ok (.value v) w ∧ ER w g bx s.env v e

theorem Reads.none : Reads P w g bx s a o none := fun _ _ h => by cases h
theorem Reads.val {x : V} {v : Value} (hr : (execOp a.eval o).run P w = .ok (.value v) w) (h : Rep g x v) : Reads P w g bx s a o (s.val x) := by
  intro e s' he
  cases he
  exact ⟨rfl, v, hr, ER.v h⟩
theorem Reads.opt {r : Option V} (h : ∀ x, r = some x → ∃ v, (execOp a.eval o).run P w = .ok (.value v) w ∧ Rep g x v) : Reads P w g bx s a o (s.opt r) := by
  cases r with
  | none => exact Reads.none
  | some x =>
    obtain ⟨v, hr, hx⟩ := h x rfl
    exact Reads.val hr hx
theorem Reads.optE {r : Option E} (h : ∀ e, r = some e → ∃ v, (execOp a.eval o).run P w = .ok (.value v) w ∧ ER w g bx s.env v e) : Reads P w g bx s a o (s.optE r) := by
  cases r with
  | none => exact Reads.none
  | some x =>
    obtain ⟨v, hr, hx⟩ := h x rfl
    intro e s' he
    cases he
    exact ⟨rfl, v, hr, hx⟩
theorem Reads.gd {b : Bool} {r : OpR} (h : b = true → Reads P w g bx s a o r) : Reads P w g bx s a o (Air.gd b r) := by
  cases b with
  | true => exact h rfl
  | false => exact Reads.none

/-! ### the types' table -/
theorem size_of {t : TypeId} {n : Nat} (h : sizeP P t = some n) : ∃ i d, P.info? t = some i ∧ i.size = n ∧ P.underlying t = some d ∧ P.cellsOf t = n := by
  unfold sizeP at h
  split at h
  · rename_i d hd
    split at h
    · rename_i i hi
      cases h
      exact ⟨i, d, hi, rfl, hd, by simp [Program.cellsOf, hi]⟩
    · cases h
  · cases h
theorem run_underlying' {t : TypeId} {d : TypeDesc} (h : P.underlying t = some d) : (underlying t).run P w = .ok d w := run_underlying h w
theorem run_isAgg {t : TypeId} {d : TypeDesc} (h : P.underlying t = some d) : (isAgg t).run P w = .ok (aggP P t) w := by
  unfold isAgg
  simp only [Sem.run_bind, run_underlying h, Result.andThen_ok, aggP, h]
  cases d <;> simp [Sem.run_pure]
theorem run_sizeOf' {t : TypeId} {n : Nat} (h : sizeP P t = some n) : (sizeOf t).run P w = .ok n w := by
  obtain ⟨i, d, hi, hs, _, hc⟩ := size_of h
  rw [run_sizeOf w hi, hc]

theorem rd_some {sz : Nat} {agg : Bool} {cs : List V} {x : V} (h : rd sz agg cs = some x) :
    (agg = true ∧ sz ≤ cs.length ∧ x = .agg (cs.take sz)) ∨ (agg = false ∧ cs[0]? = some x) := by
  unfold rd at h
  cases agg with
  | true =>
    obtain ⟨h1, h2⟩ := gd_some h
    rw [lenR_eq] at h1
    rw [takeR_eq] at h2
    cases h2
    exact .inl ⟨rfl, Nat.le_of_ble_eq_true h1, rfl⟩
  | false =>
    cases cs with
    | nil => cases h
    | cons y r => cases h; exact .inr ⟨rfl, rfl⟩

/-- A load of a variable of a type out of cells that stand there. -/
theorem loadVar_ok {t : TypeId} {n b off : Nat} {cs : List V} {ys : List Value} {x : V} (hn : sizeP P t = some n) (hr : Reps g cs ys) (hc : ∀ y ∈ ys, cellV y)
    (hw : ∀ j y, ys[j]? = some y → w.cell? ⟨b, off + j, none⟩ = some y) (h : rd n (aggP P t) cs = some x) :
    ∃ y, (loadVar t ⟨b, off, none⟩).run P w = .ok y w ∧ Rep g x y := by
  obtain ⟨i, d, hi, hs, hd, _⟩ := size_of hn
  rcases rd_some h with ⟨ha, hl, rfl⟩ | ⟨ha, h0⟩
  · have hlen := hr.length
    refine ⟨.agg ((ys.take n).toArray), ?_, ?_⟩
    · unfold loadVar
      simp only [Sem.run_bind, run_isAgg hd, Result.andThen_ok, ha, if_true, run_sizeOf' hn]
      have hcells := run_loadCells_list (P := P) (w := w) ⟨b, off, none⟩ (ys.take n) (fun j v hv => by
        rw [addr_add]
        rw [List.getElem?_take] at hv
        split at hv
        · exact hw j v hv
        · cases hv)
      have : (ys.take n).length = n := by simp; omega
      rw [this] at hcells
      rw [hcells]
      rfl
    · simp only [Rep]
      exact ⟨_, rfl, by simpa using hr.take n, fun y hy => hc y (List.mem_of_mem_take (by simpa using hy))⟩
  · obtain ⟨y, hy, hx⟩ := hr.get h0
    refine ⟨y, ?_, hx⟩
    unfold loadVar
    simp only [Sem.run_bind, run_isAgg hd, Result.andThen_ok, ha]
    have := hw 0 y hy
    simp only [Nat.add_zero] at this
    simp [load, Sem.run, this]

/-! ### the operations -/
theorem mov_ok (he : Env w g bx s.env a.tmps) {x : Operand} (ho : o.op = .move x ∨ o.op = .assign x) : Reads P w g bx s a o (evMov (opd x) s) := by
  refine Reads.optE fun e h => ?_
  refine ⟨a.eval x, ?_, ad_opd he h⟩
  rcases ho with ho | ho <;> simp [execOp, ho]

theorem pick_ok (he : Env w g bx s.env a.tmps) {c x y : Operand} (ho : o.op = .pick c x y) : Reads P w g bx s a o (evPick (opd c) (opd x) (opd y) s) := by
  unfold evPick
  split
  · rename_i t hc
    have hb := v_opd he hc
    simp only [Rep] at hb
    cases t with
    | true => exact Reads.opt fun z hz => ⟨a.eval x, by simp [execOp, ho, hb, asBool, Sem.run_pure], v_opd he hz⟩
    | false => exact Reads.opt fun z hz => ⟨a.eval y, by simp [execOp, ho, hb, asBool, Sem.run_pure], v_opd he hz⟩
  · exact Reads.none

theorem atO_some {r : Option E} {cs : List V} (h : s.atO r = some cs) : ∃ e, r = some e ∧ s.at_ e = some cs := by
  cases r with
  | none => cases h
  | some e => exact ⟨e, rfl, h⟩
theorem rdO_some {n : Nat} {agg : Bool} {r : Option (List V)} {x : V} (h : rdO n agg r = some x) : ∃ cs, r = some cs ∧ rd n agg cs = some x := by
  cases r with
  | none => cases h
  | some cs => exact ⟨cs, rfl, h⟩

theorem load_ok (hi : Inv w g s.hp s.nx) (he : Env w g bx s.env a.tmps) {t : TypeId} {x : Operand} {n : Nat} (hn : sizeP P t = some n) (ho : o.op = .load t x) :
    Reads P w g bx s a o (evLoad n (aggP P t) (opd x) s) := by
  refine Reads.opt fun z hz => ?_
  obtain ⟨cs, hcs, hrd⟩ := rdO_some hz
  obtain ⟨e, hae, hat⟩ := atO_some hcs
  obtain ⟨hv, _⟩ := ad_opd he hae
  obtain ⟨b, off, ys, hp, hr, hc, hw⟩ := at_ok hi hv he hat
  obtain ⟨y, hrun, hx⟩ := loadVar_ok hn hr hc hw hrd
  refine ⟨y, ?_, hx⟩
  simp only [execOp, ho, Instr.loadAt, Instr.sureAddr, hp, Sem.run_bind, Sem.run_pure, Result.andThen_ok, hrun]

theorem mkif_ok (he : Env w g bx s.env a.tmps) {t : TypeId} {x : Operand} (hd : ∃ d, P.underlying t = some d ∧ ∀ ms, d ≠ .interface ms) (ho : o.op = .makeInterface t x) :
    Reads P w g bx s a o (evMkif t (opd x) s) := by
  unfold evMkif
  split
  · rename_i y hy
    obtain ⟨d, hd, hni⟩ := hd
    refine Reads.val (v := .iface t (a.eval x)) ?_ (by simp only [Rep]; exact ⟨_, rfl, v_opd he hy⟩)
    simp only [execOp, ho, Instr.makeInterface, Sem.run_bind, run_underlying hd, Result.andThen_ok]
    cases d <;> first | exact absurd rfl (hni _) | simp [Sem.run_pure]
  · exact Reads.none

theorem mkfn_ok (he : Env w g bx s.env a.tmps) {f : Fn} {x y : Array Operand} (ho : o.op = .makeFunc f x y) :
    Reads P w g bx s a o (evMkfn f (x.toList.map opd) (y.toList.map opd) s) := by
  unfold evMkfn
  split
  · rename_i xs hx
    split
    · rename_i ys hy
      refine Reads.val (v := .func f (x.map a.eval) (y.map a.eval)) ?_ ?_
      · simp [execOp, ho, Instr.makeFunc, Sem.run_pure]
      · simp only [Rep]
        exact ⟨_, _, rfl, by simpa using vs_opd he _ hx, by simpa using vs_opd he _ hy⟩
    · exact Reads.none
  · exact Reads.none

theorem extract_ok (he : Env w g bx s.env a.tmps) {x : Operand} {i : Nat} (ho : o.op = .extract x i) : Reads P w g bx s a o (evExtract (opd x) i s) := by
  unfold evExtract
  split
  · rename_i vs hv
    refine Reads.opt fun z hz => ?_
    rw [nthR_eq] at hz
    have h := v_opd he hv
    simp only [Rep] at h
    obtain ⟨ys, hx, hr⟩ := h
    obtain ⟨y, hy, hr⟩ := hr.get hz
    rw [Array.getElem?_toList] at hy
    exact ⟨y, by simp [execOp, ho, Instr.extract, hx, hy, Sem.run_pure], hr⟩
  · exact Reads.none

/-! ### addresses of parts -/
theorem shift_ok {v : Value} {t : Nat} {e e' : E} {off : Nat} (hv : EnvAt w g bx s.env v t e) (hne : ∀ cs, e ≠ .box cs) (h : e.shift off = some e') :
    ∃ b k, v = .pointer (some ⟨b, k, none⟩) ∧ ER w g bx s.env (.pointer (some ⟨b, k + off, none⟩)) e' := by
  cases e with
  | box cs => exact absurd rfl (hne cs)
  | v x =>
    cases x with
    | ptr id k =>
      have h' : some (E.v (.ptr id (k + off))) = some e' := h
      cases h'
      simp only [EnvAt, Rep] at hv
      obtain ⟨hi, b, q, hv, hp⟩ := hv
      refine ⟨b, q + k, hv, ?_, fun _ => by simp⟩
      simp only [EnvAt, Rep]
      exact ⟨hi, b, q, by rw [Nat.add_assoc], hp⟩
    | iptr cs =>
      have h' : some (E.v (.iptr (dropR off cs))) = some e' := h
      cases h'
      simp only [EnvAt, Rep] at hv
      obtain ⟨c, b, k, ys, hv, hr, hc, hl⟩ := hv
      refine ⟨b, k, hv, ?_, fun _ => by simp⟩
      simp only [EnvAt, Rep]
      rw [dropR_eq]
      refine ⟨c, b, k + off, ys.drop off, rfl, hr.drop off, fun y hy => hc y (List.mem_of_mem_drop hy), fun j y hj => ?_⟩
      rw [List.getElem?_drop] at hj
      rw [Nat.add_assoc]
      exact hl _ y hj
    | _ => cases h
  | lp u k =>
    have h' : some (E.lp u (k + off)) = some e' := h
    cases h'
    obtain ⟨b, hve, hb⟩ := hv
    exact ⟨b, k, hve, ⟨b, rfl, hb⟩, fun _ => by simp⟩

theorem field_of {t : TypeId} {f off n : Nat} {agg : Bool} (h : fieldP P t f = some (off, n, agg)) :
    ∃ fs fd, P.underlying t = some (.struct fs) ∧ fs[f]? = some fd ∧ fd.offset = off ∧ sizeP P fd.type = some n ∧ n ≠ 0 ∧ agg = aggP P fd.type := by
  unfold fieldP at h
  split at h
  · rename_i fs hfs
    split at h
    · rename_i fd hfd
      split at h
      · cases h
      · rename_i n' hne hn
        cases h
        exact ⟨fs, fd, hfs, hfd, rfl, hn, hne, rfl⟩
      · cases h
    · cases h
  · cases h

theorem fieldA_ok (he : Env w g bx s.env a.tmps) {t : TypeId} {x : Operand} {f off n : Nat} {agg : Bool} (hf : fieldP P t f = some (off, n, agg)) (ho : o.op = .fieldAddr t x f) :
    Reads P w g bx s a o (evFieldA off (opd x) s) := by
  unfold evFieldA
  split
  · rename_i e hae
    refine Reads.optE fun e' h => ?_
    obtain ⟨hv, hne⟩ := ad_opd he hae
    obtain ⟨b, k, hp, her⟩ := shift_ok hv hne h
    obtain ⟨fs, fd, hfs, hfd, rfl, hn, hn0, _⟩ := field_of hf
    refine ⟨_, ?_, her⟩
    simp only [execOp, ho, Instr.fieldAt, Instr.sureAddr, hp, Sem.run_bind, run_underlying hfs, hfd, fieldPlace, run_sizeOf' hn, Result.andThen_ok, Sem.run_pure, if_neg hn0, addr_add]
  · exact Reads.none

theorem fieldV_some {off n : Nat} {agg : Bool} {r : Option V} {x : V} (h : fieldV off n agg r = some x) : ∃ cs, r = some (.agg cs) ∧ rd n agg (cs.drop off) = some x := by
  unfold fieldV at h
  split at h
  · rename_i cs
    rw [dropR_eq] at h
    exact ⟨cs, rfl, h⟩
  · cases h

/-- A part of a struct or an array. -/
theorem part_ok {t : TypeId} {n off : Nat} {cs : List V} {xs : Array Value} {x : V} (hn : sizeP P t = some n) (hr : Reps g cs xs.toList) (hc : ∀ y ∈ xs.toList, cellV y)
    (h : rd n (aggP P t) (cs.drop off) = some x) : ∃ y, (part t xs off).run P w = .ok y w ∧ Rep g x y := by
  obtain ⟨i, d, hi, hs, hd, _⟩ := size_of hn
  have hlen := hr.length
  rcases rd_some h with ⟨ha, hl, rfl⟩ | ⟨ha, h0⟩
  · refine ⟨.agg (xs.extract off (off + n)), ?_, ?_⟩
    · unfold part
      simp only [Sem.run_bind, run_isAgg hd, Result.andThen_ok, ha, if_true, run_sizeOf' hn, Sem.run_pure]
    · simp only [Rep]
      refine ⟨_, rfl, ?_, fun y hy => hc y ?_⟩
      · rw [Array.toList_extract, List.extract_eq_take_drop]
        have : off + n - off = n := by omega
        rw [this]
        exact (hr.drop off).take n
      · rw [Array.toList_extract, List.extract_eq_take_drop] at hy
        exact List.mem_of_mem_drop (List.mem_of_mem_take hy)
  · rw [List.getElem?_drop, Nat.add_zero] at h0
    obtain ⟨y, hy, hx⟩ := hr.get h0
    rw [Array.getElem?_toList] at hy
    refine ⟨y, ?_, hx⟩
    unfold part
    simp only [Sem.run_bind, run_isAgg hd, Result.andThen_ok, ha]
    simp [hy, Sem.run_pure]

theorem field_ok (he : Env w g bx s.env a.tmps) {t : TypeId} {x : Operand} {f off n : Nat} {agg : Bool} (hf : fieldP P t f = some (off, n, agg)) (ho : o.op = .field t x f) :
    Reads P w g bx s a o (evField off n agg (opd x) s) := by
  refine Reads.opt fun z hz => ?_
  obtain ⟨cs, hv, hrd⟩ := fieldV_some hz
  have h := v_opd he hv
  simp only [Rep] at h
  obtain ⟨xs, hx, hr, hc⟩ := h
  obtain ⟨fs, fd, hfs, hfd, rfl, hn, hn0, rfl⟩ := field_of hf
  obtain ⟨y, hrun, hy⟩ := part_ok (w := w) hn hr hc hrd
  refine ⟨y, ?_, hy⟩
  simp only [execOp, ho, Instr.field, hx, asAgg, Sem.run_bind, run_underlying hfs, hfd, Result.andThen_ok, Sem.run_pure, hrun]

theorem natOf_some {r : Option V} {n : Nat} (h : natOf r = some n) : (∃ k, r = some (.int k (.ofNat n))) ∧ n ≤ 2147483647 := by
  unfold natOf at h
  split at h
  · rename_i k m
    obtain ⟨h1, h2⟩ := gd_some h
    cases h2
    exact ⟨⟨k, rfl⟩, Nat.le_of_ble_eq_true h1⟩
  · cases h
theorem nat_opd (he : Env w g bx s.env a.tmps) {x : Operand} {n : Nat} (h : s.nat (opd x) = some n) : ∃ k, a.eval x = .int k (.ofNat n) ∧ n ≤ 2147483647 := by
  obtain ⟨⟨k, hk⟩, hn⟩ := natOf_some h
  have := v_opd he hk
  simp only [Rep] at this
  exact ⟨k, this, hn⟩

theorem idxArr_ok (he : Env w g bx s.env a.tmps) {t e : TypeId} {x i : Operand} {k n : Nat} (ht : P.underlying t = some (.array k e)) (hn : sizeP P e = some n) (ho : o.op = .index t x i) :
    Reads P w g bx s a o (evIdxArr k n (aggP P e) (opd x) (opd i) s) := by
  unfold evIdxArr
  split
  · rename_i j hj
    refine Reads.gd fun hlt => Reads.opt fun z hz => ?_
    obtain ⟨ik, hie, _⟩ := nat_opd he hj
    obtain ⟨cs, hv, hrd⟩ := fieldV_some hz
    have h := v_opd he hv
    simp only [Rep] at h
    obtain ⟨xs, hx, hr, hc⟩ := h
    obtain ⟨y, hrun, hy⟩ := part_ok (w := w) hn hr hc hrd
    refine ⟨y, ?_, hy⟩
    have hlt' : j < k := lt_of_blt hlt
    simp only [execOp, ho, Instr.index, hx, hie, asIntOf, Sem.run_bind, run_underlying ht, Result.andThen_ok, Sem.run_pure]
    rw [if_pos ⟨Int.natCast_nonneg _, Int.ofNat_lt.2 hlt'⟩]
    simp only [Sem.run_bind, run_sizeOf' hn, Result.andThen_ok, Int.toNat_natCast, Int.ofNat_eq_natCast, hrun]
  · exact Reads.none

theorem idxAarr_ok (he : Env w g bx s.env a.tmps) {t e : TypeId} {x i : Operand} {k n : Nat} (ht : P.underlying t = some (.array k e)) (hn : sizeP P e = some n) (ho : o.op = .indexAddr t x i) :
    Reads P w g bx s a o (evIdxAarr k n (opd x) (opd i) s) := by
  unfold evIdxAarr
  split
  · rename_i j hj
    refine Reads.gd fun hlt => ?_
    split
    · rename_i e' hae
      refine Reads.optE fun e'' h => ?_
      obtain ⟨hv, hne⟩ := ad_opd he hae
      obtain ⟨b, q, hp, her⟩ := shift_ok hv hne h
      obtain ⟨ik, hie, _⟩ := nat_opd he hj
      refine ⟨_, ?_, her⟩
      have hlt' : j < k := lt_of_blt hlt
      simp only [execOp, ho, Instr.indexAt, Instr.sureAddr, hp, hie, asIntOf, Sem.run_bind, run_underlying ht, Result.andThen_ok, Sem.run_pure]
      rw [if_pos ⟨Int.natCast_nonneg _, Int.ofNat_lt.2 hlt'⟩]
      simp only [Sem.run_bind, run_sizeOf' hn, Result.andThen_ok, Int.toNat_natCast, Int.ofNat_eq_natCast, Sem.run_pure, addr_add]
    · exact Reads.none
  · exact Reads.none
end
end Go.Air

/- AIR: operators, conversions, cuts, indices. -/
namespace Go.Air
variable [GL]
section
variable {P : Program} {w : World} {g : G} {bx : Nat → Option Nat} {s s' : St} {a : Act} {o : Oper} {e : E}

theorem guard_plain {op : BinOp} {t : TypeId} {x y : Operand} {u v : Value} (h1 : ∀ xs, u ≠ .agg xs) (h2 : u ≠ .nilIface) : (eqGuard op t x y u v).run P w = .ok () w := by
  unfold eqGuard
  cases op <;> simp [Sem.run_pure] <;> (split <;> first | exact absurd rfl h2 | exact absurd rfl (h1 _) | simp [Sem.run_pure])

theorem toList_mk (l : List UInt8) : (⟨l.toArray⟩ : ByteArray).toList = l := ByteArray.toList_mk l
theorem eqB_beq (x y : List UInt8) : eqB x y = (x == y) := by rw [eqB_eq]; by_cases h : x = y <;> simp [h]

theorem binI2_ok {op : BinOp} {t : TypeId} {k : IntKind} {m n : Int} {z : V} (hs : isShift op = false) (h : binI op k m n = some z) :
    ∃ v, (binOp op t (.int k m) (.int k n)).run P w = .ok v w ∧ Rep g z v := by
  cases op <;> simp only [isShift, reduceCtorEq] at hs <;> simp only [binI, Option.some.injEq] at h
  case quo =>
    rw [eqI_eq] at h
    by_cases hn : n = 0
    · simp [hn] at h
    · simp only [hn, decide_false, Option.some.injEq] at h
      subst h
      exact ⟨.int k (k.wrap (m.tdiv n)), by simp [binOp, Op.intDiv, hn, Sem.run_pure], by simp [Rep, wrapF_eq]⟩
  case rem =>
    rw [eqI_eq] at h
    by_cases hn : n = 0
    · simp [hn] at h
    · simp only [hn, decide_false, Option.some.injEq] at h
      subst h
      exact ⟨.int k (m.tmod n), by simp [binOp, Op.intDiv, hn, Sem.run_pure], by simp [Rep]⟩
  case add => subst h; exact ⟨.int k (k.wrap (m + n)), by simp [binOp, Op.intArith, Sem.run_pure], by simp [Rep, wrapF_eq, addI_eq]⟩
  case sub => subst h; exact ⟨.int k (k.wrap (m - n)), by simp [binOp, Op.intArith, Sem.run_pure], by simp [Rep, wrapF_eq, subI_eq]⟩
  case mul => subst h; exact ⟨.int k (k.wrap (m * n)), by simp [binOp, Op.intArith, Sem.run_pure], by simp [Rep, wrapF_eq, mulI_eq]⟩
  case and => subst h; exact ⟨_, by simp only [binOp, Op.intBits, ne_eq, not_true_eq_false, if_false]; rfl, by simp only [Rep, bits_and]⟩
  case or => subst h; exact ⟨_, by simp only [binOp, Op.intBits, ne_eq, not_true_eq_false, if_false]; rfl, by simp only [Rep, bits_or]⟩
  case xor => subst h; exact ⟨_, by simp only [binOp, Op.intBits, ne_eq, not_true_eq_false, if_false]; rfl, by simp only [Rep, bits_xor]⟩
  case andNot => subst h; exact ⟨_, by simp only [binOp, Op.intBits, ne_eq, not_true_eq_false, if_false]; rfl, by simp only [Rep]⟩
  case eql => subst h; exact ⟨.bool (m == n), by simp [binOp, Op.intCmp, Sem.run_pure], by simp only [Rep, eqI_eq]; rfl⟩
  case neq => subst h; exact ⟨.bool (m != n), by simp [binOp, Op.intCmp, Sem.run_pure], by simp only [Rep, eqI_eq, notB_eq]; rfl⟩
  case lss => subst h; exact ⟨.bool (decide (m < n)), by simp [binOp, Op.intCmp, Sem.run_pure], by simp only [Rep, ltI_eq]⟩
  case leq => subst h; exact ⟨.bool (decide (m ≤ n)), by simp [binOp, Op.intCmp, Sem.run_pure], by simp only [Rep, ltI_eq, notB_eq]; by_cases hc : m ≤ n <;> simp [hc, Int.not_lt.2, Int.not_le.1] <;> omega⟩
  case gtr => subst h; exact ⟨.bool (decide (m > n)), by simp [binOp, Op.intCmp, Sem.run_pure], by simp only [Rep, ltI_eq, gt_iff_lt]⟩
  case geq => subst h; exact ⟨.bool (decide (m ≥ n)), by simp [binOp, Op.intCmp, Sem.run_pure], by simp only [Rep, ltI_eq, notB_eq]; by_cases hc : m < n <;> simp [hc] <;> omega⟩

theorem binI_ok {op : BinOp} {t : TypeId} {k k' : IntKind} {m n : Int} {z : V}
    (h : bin op (.int k m) (.int k' n) = some z) : ∃ v, (binOp op t (.int k m) (.int k' n)).run P w = .ok v w ∧ Rep g z v := by
  have h1 : boolCase (isShift op) (shI op k m n) (gd (eqK k k') (binI op k m n)) = some z := h
  clear h
  cases hs : isShift op with
  | true =>
    rw [hs] at h1
    have h2 : shI op k m n = some z := h1
    clear h1
    simp only [shI] at h2
    split at h2
    · cases h2
    · rename_i hn
      cases op <;> simp only [isShift, Bool.false_eq_true] at hs <;> simp only [Option.some.injEq] at h2 <;> subst h2 <;>
        refine ⟨_, ?_, rfl⟩ <;> simp [binOp, Op.shift, hn, Sem.run_pure]
  | false =>
    rw [hs] at h1
    have h2 : gd (eqK k k') (binI op k m n) = some z := h1
    obtain ⟨hk, h3⟩ := gd_some h2
    have hk' := (eqK_eq k k').1 hk
    subst hk'
    exact binI2_ok hs h3

theorem binS_ok {op : BinOp} {t : TypeId} {x y : List UInt8} {z : V} (h : bin op (.str x) (.str y) = some z) :
    ∃ v, (binOp op t (.string ⟨x.toArray⟩) (.string ⟨y.toArray⟩)).run P w = .ok v w ∧ Rep g z v := by
  have h' : binS op x y = some z := h
  cases op <;> simp only [binS, Option.some.injEq, reduceCtorEq] at h'
  case add =>
    obtain ⟨h1, h2⟩ := gd_some h'
    rw [lenR_eq, lenR_eq] at h1
    cases h2
    have := Nat.le_of_ble_eq_true h1
    refine ⟨.string (⟨x.toArray⟩ ++ ⟨y.toArray⟩), ?_, ?_⟩
    · simp only [binOp, Op.stringOp]
      rw [if_neg (by simp [ByteArray.size, IntKind.max, IntKind.signed, IntKind.bits]; omega)]
      rfl
    · simp only [Rep, appR_eq, Value.string.injEq]
      apply ByteArray.ext
      simp
  case eql => subst h'; exact ⟨_, by simp only [binOp, Op.stringOp, toList_mk]; rfl, by simp only [Rep, eqB_beq]⟩
  case neq => subst h'; exact ⟨_, by simp only [binOp, Op.stringOp, toList_mk]; rfl, by simp only [Rep, eqB_beq]⟩
  case lss => subst h'; exact ⟨_, by simp only [binOp, Op.stringOp, toList_mk]; rfl, by simp only [Rep, ltB]⟩
  case leq => subst h'; exact ⟨_, by simp only [binOp, Op.stringOp, toList_mk]; rfl, by simp only [Rep, ltB, eqB_beq]⟩
  case gtr => subst h'; exact ⟨_, by simp only [binOp, Op.stringOp, toList_mk]; rfl, by simp only [Rep, ltB, eqB_beq]⟩
  case geq => subst h'; exact ⟨_, by simp only [binOp, Op.stringOp, toList_mk]; rfl, by simp only [Rep, ltB]⟩

theorem guard_ne {op : BinOp} (h1 : op ≠ .eql) (h2 : op ≠ .neq) {t : TypeId} {x y : Operand} {u v : Value} : (eqGuard op t x y u v).run P w = .ok () w := by
  cases op <;> first | exact absurd rfl h1 | exact absurd rfl h2 | rfl

theorem bin_ok (he : Env w g bx s.env a.tmps) {op : BinOp} {t t' : TypeId} {x y : Operand} (ho : o.op = .binOp op t x y t') : Reads P w g bx s a o (evBin op (opd x) (opd y) s) := by
  unfold evBin
  split
  · rename_i u hu
    split
    · rename_i v hv
      refine Reads.opt fun z hz => ?_
      have ru := v_opd he hu
      have rv := v_opd he hv
      have hz0 := hz
      unfold bin at hz
      split at hz
      · split at hz
        · simp only [Rep] at ru rv
          obtain ⟨q, hq, hr⟩ := binI_ok (P := P) (w := w) (g := g) (t := t) hz0
          refine ⟨q, ?_, hr⟩
          have hg := guard_plain (P := P) (w := w) (op := op) (t := t) (x := x) (y := y) (u := a.eval x) (v := a.eval y) (by rw [ru]; intro xs; simp) (by rw [ru]; simp)
          simp only [execOp, ho, Sem.run_bind, hg, Result.andThen_ok]
          rw [ru, rv, hq]; rfl
        · cases hz
      · split at hz
        · simp only [Rep] at ru rv
          obtain ⟨q, hq, hr⟩ := binS_ok (P := P) (w := w) (g := g) (t := t) hz0
          refine ⟨q, ?_, hr⟩
          have hg := guard_plain (P := P) (w := w) (op := op) (t := t) (x := x) (y := y) (u := a.eval x) (v := a.eval y) (by rw [ru]; intro xs; simp) (by rw [ru]; simp)
          simp only [execOp, ho, Sem.run_bind, hg, Result.andThen_ok]
          rw [ru, rv, hq]; rfl
        · cases hz
      · cases hz
    · exact Reads.none
  · exact Reads.none

theorem equal_succ (t : TypeId) : ∃ d, ∀ u v : Value, Op.equal t u v = Op.equalIn (d + 1) t u v := ⟨9999, fun _ _ => rfl⟩

/-- What equality at a kind says. -/
theorem eqAt_ok {k : Nat} {t : TypeId} {x y : Operand} {p q : V} {u v : Value} {b : Bool} (hk : eqKd P t x y = some k) (hu : Rep g p u) (hv : Rep g q v) (h : eqAt k p q = some b) :
    (Op.equal t u v).run P w = .ok b w ∧ (∀ k n, u ≠ .int k n) ∧ (∀ z, u ≠ .string z) ∧ (∀ k z, u ≠ .float k z) ∧ (∀ k z q, u ≠ .complex k z q) ∧ (∀ xs, u ≠ .agg xs) ∧
      (u = .nilIface → v = .nilIface → (isConst x || isConst y) = true) := by
  obtain ⟨d, hd⟩ := equal_succ t
  unfold eqKd at hk
  split at hk <;> (try (split at hk)) <;> cases hk <;> simp only [eqAt] at h
  · rename_i ht
    unfold eqBool at h
    split at h <;> cases h
    rename_i c e
    simp only [Rep] at hu hv
    subst hu hv
    refine ⟨?_, by simp, by simp, by simp, by simp, by simp, by simp⟩
    rw [hd]
    simp only [Op.equalIn, Sem.run_bind, run_underlying ht, Result.andThen_ok]
    cases c <;> cases e <;> rfl
  · rename_i e ht _ hc
    unfold eqPtr at h
    split at h <;> cases h <;> simp only [Rep] at hu hv
    · subst hu hv
      refine ⟨?_, by simp, by simp, by simp, by simp, by simp, by simp⟩
      rw [hd]
      simp only [Op.equalIn, Sem.run_bind, run_underlying ht, Result.andThen_ok]; rfl
    · obtain ⟨_, b', k', rfl, _⟩ := hv
      subst hu
      refine ⟨?_, by simp, by simp, by simp, by simp, by simp, by simp⟩
      rw [hd]
      simp only [Op.equalIn, Sem.run_bind, run_underlying ht, Result.andThen_ok]; rfl
    · obtain ⟨_, b', k', rfl, _⟩ := hu
      subst hv
      refine ⟨?_, by simp, by simp, by simp, by simp, by simp, by simp⟩
      rw [hd]
      simp only [Op.equalIn, Sem.run_bind, run_underlying ht, Result.andThen_ok]; rfl
  · rename_i ps rs vv ht
    unfold eqFun at h
    split at h <;> cases h <;> simp only [Rep] at hu hv
    · subst hu hv
      refine ⟨?_, by simp, by simp, by simp, by simp, by simp, by simp⟩
      rw [hd]
      simp only [Op.equalIn, Sem.run_bind, run_underlying ht, Result.andThen_ok]; rfl
    · obtain ⟨_, _, rfl, _⟩ := hv
      subst hu
      refine ⟨?_, by simp, by simp, by simp, by simp, by simp, by simp⟩
      rw [hd]
      simp only [Op.equalIn, Sem.run_bind, run_underlying ht, Result.andThen_ok]; rfl
    · obtain ⟨_, _, rfl, _⟩ := hu
      subst hv
      refine ⟨?_, by simp, by simp, by simp, by simp, by simp, by simp⟩
      rw [hd]
      simp only [Op.equalIn, Sem.run_bind, run_underlying ht, Result.andThen_ok]; rfl
  · rename_i ms ht _ hc
    unfold eqIf at h
    split at h <;> cases h <;> simp only [Rep] at hu hv
    · subst hu hv
      refine ⟨?_, by simp, by simp, by simp, by simp, by simp, fun _ _ => hc⟩
      rw [hd]
      simp only [Op.equalIn, Sem.run_bind, run_underlying ht, Result.andThen_ok]; rfl
    · obtain ⟨_, rfl, _⟩ := hv
      subst hu
      refine ⟨?_, by simp, by simp, by simp, by simp, by simp, fun _ h => by simp at h⟩
      rw [hd]
      simp only [Op.equalIn, Sem.run_bind, run_underlying ht, Result.andThen_ok]; rfl
    · obtain ⟨_, rfl, _⟩ := hu
      subst hv
      refine ⟨?_, by simp, by simp, by simp, by simp, by simp, fun h => by simp at h⟩
      rw [hd]
      simp only [Op.equalIn, Sem.run_bind, run_underlying ht, Result.andThen_ok]; rfl
  · rename_i e ht
    unfold eqSl at h
    split at h <;> cases h <;> simp only [Rep] at hu hv
    · subst hu hv
      refine ⟨?_, by simp, by simp, by simp, by simp, by simp, by simp⟩
      rw [hd]
      simp only [Op.equalIn, Sem.run_bind, run_underlying ht, Result.andThen_ok]; rfl
    · obtain ⟨_, a', c', rfl, _⟩ := hv
      subst hu
      refine ⟨?_, by simp, by simp, by simp, by simp, by simp, by simp⟩
      rw [hd]
      simp only [Op.equalIn, Sem.run_bind, run_underlying ht, Result.andThen_ok]; rfl
    · obtain ⟨_, a', c', rfl, _⟩ := hu
      subst hv
      refine ⟨?_, by simp, by simp, by simp, by simp, by simp, by simp⟩
      rw [hd]
      simp only [Op.equalIn, Sem.run_bind, run_underlying ht, Result.andThen_ok]; rfl
    · obtain ⟨a', c', b', o', rfl, _, ha, _⟩ := hv
      subst hu
      rw [ha (by simp)]
      refine ⟨?_, by simp, by simp, by simp, by simp, by simp, by simp⟩
      rw [hd]
      simp only [Op.equalIn, Sem.run_bind, run_underlying ht, Result.andThen_ok]; rfl
    · obtain ⟨a', c', b', o', rfl, _, ha, _⟩ := hu
      subst hv
      rw [ha (by simp)]
      refine ⟨?_, by simp, by simp, by simp, by simp, by simp, by simp⟩
      rw [hd]
      simp only [Op.equalIn, Sem.run_bind, run_underlying ht, Result.andThen_ok]; rfl

theorem isConst_eq (x : Operand) : isConst x = (x matches .const _) := by cases x <;> rfl

theorem eqx_ok (he : Env w g bx s.env a.tmps) {neg : Bool} {op : BinOp} {t t' : TypeId} {x y : Operand} {k : Nat} (hop : op = bif neg then .neq else .eql) (hk : eqKd P t x y = some k)
    (ho : o.op = .binOp op t x y t') : Reads P w g bx s a o (evEqx k neg (opd x) (opd y) s) := by
  unfold evEqx
  split
  · rename_i p hp
    split
    · rename_i q hq
      refine Reads.opt fun z hz => ?_
      unfold negV at hz
      split at hz
      · rename_i b hb
        cases hz
        obtain ⟨heq, h1, h2, h3, h4, h5, h6⟩ := eqAt_ok (w := w) hk (v_opd he hp) (v_opd he hq) hb
        generalize hu : a.eval x = u at *
        generalize hv : a.eval y = v at *
        have hg : (eqGuard op t x y u v).run P w = .ok () w := by
          by_cases hn : u = .nilIface ∧ v = .nilIface
          · obtain ⟨rfl, rfl⟩ := hn
            have hc := h6 rfl rfl
            subst hop
            cases neg <;> (cases x <;> cases y <;> first | rfl | (simp [isConst] at hc))
          · subst hop
            cases neg <;> (simp only [cond_true, cond_false, eqGuard]; simp only [Bool.not_true, Bool.false_eq_true, if_false]; split <;> first | exact absurd ⟨rfl, rfl⟩ hn | exact absurd rfl (h5 _) | simp [Sem.run_pure])
        have hb1 : (binOp .eql t u v).run P w = .ok (.bool b) w := by
          cases u <;> first | exact absurd rfl (h1 _ _) | exact absurd rfl (h2 _) | exact absurd rfl (h3 _ _) | exact absurd rfl (h4 _ _ _) |
            (cases v <;> simp [binOp, heq, Sem.run_pure, Sem.run_bind])
        have hb2 : (binOp .neq t u v).run P w = .ok (.bool (!b)) w := by
          cases u <;> first | exact absurd rfl (h1 _ _) | exact absurd rfl (h2 _) | exact absurd rfl (h3 _ _) | exact absurd rfl (h4 _ _ _) |
            (cases v <;> simp [binOp, heq, Sem.run_pure, Sem.run_bind])
        subst hop
        cases neg with
        | true =>
          refine ⟨.bool (!b), ?_, by simp [Rep, boolCase_eq, notB_eq]⟩
          simp only [cond_true] at hg ho ⊢
          simp only [execOp, ho, hu, hv, Sem.run_bind, hg, Result.andThen_ok, hb2]; rfl
        | false =>
          refine ⟨.bool b, ?_, by simp [Rep, boolCase_eq]⟩
          simp only [cond_false] at hg ho ⊢
          simp only [execOp, ho, hu, hv, Sem.run_bind, hg, Result.andThen_ok, hb1]; rfl
      · cases hz
    · exact Reads.none
  · exact Reads.none

theorem un_ok (he : Env w g bx s.env a.tmps) {op : UnOp} {t : TypeId} {x : Operand} (ho : o.op = .unOp op t x) : Reads P w g bx s a o (evUn op (opd x) s) := by
  unfold evUn
  split
  · rename_i u hu
    refine Reads.opt fun z hz => ?_
    have ru := v_opd he hu
    unfold un at hz
    split at hz
    · simp only [Rep] at ru
      cases hz
      exact ⟨.int _ (IntKind.wrap _ (0 - _)), by simp only [execOp, ho, ru, Op.unary, Op.intArith, Sem.run_bind, Sem.run_pure, Result.andThen_ok]; rfl, by simp only [Rep, wrapF_eq, subI_eq]⟩
    · simp only [Rep] at ru
      cases hz
      exact ⟨.bool (!_), by simp only [execOp, ho, ru, Op.unary, Sem.run_bind, Sem.run_pure, Result.andThen_ok]; rfl, by simp only [Rep, notB_eq]⟩
    · simp only [Rep] at ru
      simp only [binI, Option.some.injEq] at hz
      subst hz
      exact ⟨_, by simp only [execOp, ho, ru, Op.unary, Op.intBits, Sem.run_bind, Sem.run_pure, Result.andThen_ok]; rfl, by simp only [Rep, bits_xor]⟩
    · cases hz
  · exact Reads.none
end
end Go.Air

/- AIR: the rest of the operations that read alone. -/
namespace Go.Air
variable [GL]

section
variable {P : Program} {w : World} {g : G} {bx : Nat → Option Nat} {s s' : St} {a : Act} {o : Oper} {e : E}

theorem nilchk_ok (he : Env w g bx s.env a.tmps) {x : Operand} (ho : o.op = .nilCheck x) : Reads P w g bx s a o (evNilchk (opd x) s) := by
  unfold evNilchk
  split
  · rename_i t off h
    obtain ⟨hv, hne⟩ := ad_opd he h
    intro e s' heq
    cases heq
    obtain ⟨b, hp, hq⟩ := hv
    exact ⟨rfl, a.eval x, by simp only [execOp, ho, hp]; rfl, ⟨b, hp, hq⟩, hne⟩
  · rename_i y h
    refine Reads.gd fun hn => ?_
    obtain ⟨hv, hne⟩ := ad_opd he h
    simp only [EnvAt] at hv
    refine Reads.val (v := a.eval x) ?_ hv
    cases y with
    | ptr id off =>
      simp only [Rep] at hv
      obtain ⟨_, b, k, hp, _⟩ := hv
      simp only [execOp, ho, hp]; rfl
    | iptr cs =>
      simp only [Rep] at hv
      obtain ⟨_, b, k, _, hp, _⟩ := hv
      simp only [execOp, ho, hp]; rfl
    | fn f xs ys =>
      cases f with
      | func f =>
        simp only [Rep] at hv
        obtain ⟨_, _, hp, _⟩ := hv
        simp only [execOp, ho, hp]; rfl
      | _ => cases hn
    | _ => cases hn
  · exact Reads.none

/-! ### rows of cells -/
theorem rep_cells {x : V} {v : Value} {n : Nat} {cs : List V} (h : Rep g x v) (hc : x.cellsN n = some cs) :
    v.cells.size = n ∧ cs.length = n ∧ Reps g cs v.cells.toList ∧ ∀ y ∈ v.cells.toList, cellV y := by
  have leaf : ∀ x : V, (∀ cs, x ≠ .agg cs) → (∀ cs, x ≠ .tup cs) → Rep g x v → cellV v := by
    intro x h1 h2 hr
    cases x <;> simp only [Rep] at hr
    case undef => exact hr
    case agg cs => exact absurd rfl (h1 _)
    case tup cs => exact absurd rfl (h2 _)
    case ptr => obtain ⟨_, _, _, rfl, _⟩ := hr; trivial
    case iptr => obtain ⟨_, _, _, _, rfl, _⟩ := hr; trivial
    case isl => obtain ⟨_, _, _, _, rfl, _⟩ := hr; trivial
    case msl => obtain ⟨_, _, _, rfl, _⟩ := hr; trivial
    case map => obtain ⟨_, _, rfl, _⟩ := hr; trivial
    case fn => obtain ⟨_, _, rfl, _⟩ := hr; trivial
    case iface => obtain ⟨_, rfl, _⟩ := hr; trivial
    all_goals subst hr; trivial
  have one : ∀ {x : V}, (∀ cs, x ≠ .agg cs) → (∀ cs, x ≠ .tup cs) → Rep g x v → gd (Nat.beq n 1) (some [x]) = some cs →
      v.cells.size = n ∧ cs.length = n ∧ Reps g cs v.cells.toList ∧ ∀ y ∈ v.cells.toList, cellV y := by
    intro x h1 h2 hr hg
    obtain ⟨hn, hs⟩ := gd_some hg
    have := Nat.eq_of_beq_eq_true hn
    subst this
    cases hs
    have hl := leaf x h1 h2 hr
    have : v.cells = #[v] := by cases v <;> first | rfl | cases hl
    rw [this]
    refine ⟨rfl, rfl, ?_, ?_⟩
    · simp only [Reps]; exact ⟨v, [], rfl, hr, rfl⟩
    · intro y hy; simp at hy; subst hy; exact hl
  cases x <;> first | exact one (by simp) (by simp) h hc | skip
  case agg ds =>
    obtain ⟨hn, hs⟩ := gd_some (show gd (Nat.beq (lenR ds) n) (some ds) = some cs from hc)
    have := Nat.eq_of_beq_eq_true hn
    rw [lenR_eq] at this
    cases hs
    simp only [Rep] at h
    obtain ⟨xs, rfl, hr, hc⟩ := h
    refine ⟨?_, this, hr, hc⟩
    have := hr.length
    simp [Value.cells] at this ⊢
    omega
  case tup ds => cases hc

theorem RepEls.get {c : Bool} {sz b : Nat} : ∀ {o : Nat} {es : List V} {i : Nat} {e : V}, RepEls g c sz b o es → es[i]? = some e →
    ∃ v, Rep g e v ∧ v.cells.size = e.cells.length ∧ e.cells.length = sz ∧ (∀ y ∈ v.cells.toList, cellV y) ∧ Locked g c b (o + i * sz) v.cells.toList
  | _, [], i, _, _, h => by simp at h
  | o, x :: r, i, e, h, hi => by
    simp only [RepEls] at h
    cases i with
    | zero => simp at hi; subst hi; simpa using h.1
    | succ i =>
      have := h.2.get (i := i) (by simpa using hi)
      rw [show o + (i + 1) * sz = o + sz + i * sz by rw [Nat.add_mul]; omega]
      exact this
theorem RepEls.drop {c : Bool} {sz b : Nat} : ∀ {o : Nat} {es : List V} (n : Nat), n ≤ es.length → RepEls g c sz b o es → RepEls g c sz b (o + n * sz) (es.drop n)
  | o, es, 0, _, h => by simpa using h
  | o, [], n + 1, hn, h => by simp at hn
  | o, x :: r, n + 1, hn, h => by
    simp only [RepEls] at h
    have := h.2.drop n (by simpa using hn)
    rw [show o + (n + 1) * sz = o + sz + n * sz by rw [Nat.add_mul]; omega]
    simpa using this
theorem RepEls.take {c : Bool} {sz b : Nat} : ∀ {o : Nat} {es : List V} (n : Nat), RepEls g c sz b o es → RepEls g c sz b o (es.take n)
  | o, es, 0, h => by simp [RepEls]
  | o, [], n + 1, h => by simp [RepEls]
  | o, x :: r, n + 1, h => by
    simp only [RepEls] at h
    simp only [List.take_succ_cons, RepEls]
    exact ⟨h.1, h.2.take n⟩
theorem reps_cells {x : V} {v : Value} (h : Rep g x v) (hs : v.cells.size = x.cells.length) (hc : ∀ y ∈ v.cells.toList, cellV y) : Reps g x.cells v.cells.toList := by
  cases x with
  | agg cs =>
    simp only [Rep] at h
    obtain ⟨xs, rfl, hr, _⟩ := h
    exact hr
  | _ =>
    have h1 : v.cells.size = 1 := hs
    have : v.cells = #[v] ∨ ∃ cs, v = .agg cs := by cases v <;> first | exact .inl rfl | exact .inr ⟨_, rfl⟩
    rcases this with h2 | ⟨cs, rfl⟩
    · rw [h2]
      show Reps g [_] [v]
      simp only [Reps]
      exact ⟨v, [], rfl, h, rfl⟩
    · simp only [Rep] at h
      first
        | exact absurd h (by simp)
        | exact absurd h (by simp [cellV])
        | (obtain ⟨_, _, h, _⟩ := h; cases h)
        | (obtain ⟨_, h, _⟩ := h; cases h)
        | (obtain ⟨_, _, _, h, _⟩ := h; cases h)
        | (obtain ⟨_, _, _, _, h, _⟩ := h; cases h)

theorem RepEls.flat {c : Bool} {sz b : Nat} : ∀ {o : Nat} {es : List V}, RepEls g c sz b o es →
    ∃ ys, Reps g (flat es) ys ∧ ys.length = es.length * sz ∧ (∀ y ∈ ys, cellV y) ∧ Locked g c b o ys
  | o, [], _ => ⟨[], by simp [Air.flat, Reps], by simp, by simp, fun j y h => by simp at h⟩
  | o, x :: r, h => by
    simp only [RepEls] at h
    obtain ⟨⟨v, hv, hs, hz, hc, hl⟩, hr⟩ := h
    obtain ⟨ys, hy, hyl, hyc, hyl2⟩ := hr.flat
    have hlen : v.cells.toList.length = sz := by simp; omega
    refine ⟨v.cells.toList ++ ys, ?_, ?_, ?_, fun j y hj => ?_⟩
    · simp only [Air.flat, appR_eq]
      exact (reps_cells hv hs hc).append hy
    · rw [List.length_append, hlen, hyl, List.length_cons, Nat.add_mul]; omega
    · intro y hy'
      rcases List.mem_append.1 hy' with h1 | h1
      · exact hc y h1
      · exact hyc y h1
    · by_cases hj' : j < sz
      · rw [List.getElem?_append_left (by omega)] at hj
        exact hl j y hj
      · rw [List.getElem?_append_right (by omega)] at hj
        have := hyl2 _ y hj
        rw [show o + j = o + sz + (j - v.cells.toList.length) by omega]
        exact this

/-- What a row of cells is in the world. -/
theorem row_ok (hi : Inv w g s.hp s.nx) {x : V} {v : Value} {n k : Nat} {cs : List V} (hr : Rep g x v) (h : s.row n x = some (cs, k)) :
    (∃ A cap ys, v = .slice A k cap ∧ k ≤ cap ∧ Reps g cs ys ∧ ys.length = k * n ∧ (∀ y ∈ ys, cellV y) ∧ (A = none → k = 0) ∧
      (0 < k → ∃ b o, A = some ⟨b, o, none⟩ ∧ ∀ j y, ys[j]? = some y → w.cell? ⟨b, o + j, none⟩ = some y)) ∨
    (∃ t : List UInt8, n = 1 ∧ x = .str t ∧ v = .string ⟨t.toArray⟩ ∧ cs = t.map byteV ∧ k = t.length) := by
  unfold St.row at h
  split at h
  · cases h
    simp only [Rep] at hr
    subst hr
    exact .inl ⟨none, 0, [], rfl, Nat.le_refl _, by simp [Reps], by simp, by simp, fun _ => rfl, fun h => absurd h (by omega)⟩
  · rename_i c z es
    obtain ⟨hz, h2⟩ := gd_some h
    have := Nat.eq_of_beq_eq_true hz
    subst this
    cases h2
    simp only [Rep] at hr
    obtain ⟨A, cap, b, o', rfl, hcap, hA, hels⟩ := hr
    obtain ⟨ys, hy, hyl, hyc, hlk⟩ := hels.flat
    rw [lenR_eq]
    refine .inl ⟨A, cap, ys, rfl, hcap, hy, hyl, hyc, fun h0 => ?_, fun hk => ⟨b, o', hA (fun h0 => by rw [h0] at hk; simp at hk), fun j y hj => hi.lock c b _ y (hlk j y hj)⟩⟩
    by_cases he : es = []
    · rw [he]; rfl
    · rw [hA he] at h0; cases h0
  · rename_i id off m
    unfold rowOf at h
    split at h
    · rename_i ds hds
      obtain ⟨hle, h2⟩ := gd_some h
      cases h2
      have hle := Nat.le_of_ble_eq_true hle
      rw [lenR_eq] at hle
      rw [takeR_eq, dropR_eq]
      simp only [Rep] at hr
      obtain ⟨_, A, cap, rfl, hcap, hA, hp⟩ := hr
      cases ho : hget s.hp id with
      | none => rw [ho] at hds; cases hds
      | some ob =>
        rw [ho] at hds
        cases ob with
        | map es => cases hds
        | cells t z es =>
          cases hds
          obtain ⟨_, p, hpp, hat⟩ := hi.obj id _ ho
          obtain ⟨_, arr, fr, hb, hf, hs, hc, hlen, hcells⟩ := hat
          have hrr := Reps.of_cells hcells (by omega)
          refine .inl ⟨some A, cap, (((arr.toList.drop p.base).take ds.length).drop off).take (k * n), rfl, hcap, (hrr.drop off).take _, ?_, fun y hy => hc y ?_, fun h0 => (by cases h0), fun hk => ?_⟩
          · simp; omega
          · exact List.mem_of_mem_drop (List.mem_of_mem_take (List.mem_of_mem_drop (List.mem_of_mem_take hy)))
          · obtain ⟨b, q, rfl, hbq⟩ := hA (by omega)
            obtain ⟨rfl, rfl⟩ := hbq p hpp
            refine ⟨p.blk, p.base + off, rfl, fun j y hj => ?_⟩
            rw [cell_arr hb]
            rw [List.getElem?_take] at hj
            split at hj
            · rw [List.getElem?_drop, List.getElem?_take] at hj
              split at hj
              · rw [List.getElem?_drop, Array.getElem?_toList] at hj
                rw [Nat.add_assoc]; exact hj
              · cases hj
            · cases hj
    · cases h
  · rename_i t
    obtain ⟨hz, h2⟩ := gd_some h
    cases h2
    simp only [Rep] at hr
    exact .inr ⟨t, Nat.eq_of_beq_eq_true hz, rfl, hr, mapR_eq _ _, lenR_eq _⟩
  · cases h

/-! ### conversions -/
theorem convWrap_ok (he : Env w g bx s.env a.tmps) {src dst : TypeId} {x : Operand} {k j : IntKind} (hs : P.underlying src = some (.int j)) (hd : P.underlying dst = some (.int k)) (ho : o.op = .convert src dst x) :
    Reads P w g bx s a o (evConv (.wrap k) (opd x) s) := by
  unfold evConv
  split
  · rename_i y hy
    refine Reads.opt fun z hz => ?_
    have hr := v_opd he hy
    unfold convWrap at hz
    split at hz
    · rename_i q n
      cases hz
      simp only [Rep] at hr
      refine ⟨.int k (k.wrap n), ?_, by simp only [Rep, wrapF_eq]⟩
      simp only [execOp, ho, hr, convert, Sem.run_bind, run_underlying hs, run_underlying hd, Result.andThen_ok, Conv.intToInt, Sem.run_pure]
    · cases hz
  · exact Reads.none
theorem convSame_ok (he : Env w g bx s.env a.tmps) {src dst : TypeId} {x : Operand} (hs : P.underlying src = some .string) (hd : P.underlying dst = some .string) (ho : o.op = .convert src dst x) :
    Reads P w g bx s a o (evConv .same (opd x) s) := by
  unfold evConv
  split
  · rename_i y hy
    refine Reads.opt fun z hz => ?_
    have hr := v_opd he hy
    unfold convStr at hz
    split at hz
    · rename_i t
      cases hz
      refine ⟨a.eval x, ?_, hr⟩
      simp only [Rep] at hr
      simp only [execOp, ho, hr, convert, Sem.run_bind, run_underlying hs, run_underlying hd, Result.andThen_ok, Sem.run_pure]
    · cases hz
  · exact Reads.none

theorem toBytes_ok : ∀ {cs : List V} {t : List UInt8} {ys : List Value}, toBytes cs = some t → Reps g cs ys → ∃ ns : List Int, ys = ns.map (Value.int .u8) ∧ t = ns.map fun n => UInt8.ofNat n.toNat
  | [], t, ys, h, hr => by
    simp only [toBytes, Option.some.injEq] at h
    simp only [Reps] at hr
    exact ⟨[], by simp [hr], by simp [h]⟩
  | x :: r, t, ys, h, hr => by
    unfold toBytes at h
    split at h
    · rename_i h0; cases h0
    · rename_i n r' heq
      cases heq
      split at h
      · rename_i t' ht
        cases h
        simp only [Reps] at hr
        obtain ⟨y, q, rfl, hy, hq⟩ := hr
        simp only [Rep] at hy
        subst hy
        obtain ⟨ns, rfl, rfl⟩ := toBytes_ok ht hq
        exact ⟨n :: ns, by simp, by simp⟩
      · cases h
    · cases h
theorem push_bytes : ∀ (ns : List Int) (r : ByteArray), ns.foldl (fun r n => r.push (UInt8.ofNat n.toNat)) r = ⟨(r.data.toList ++ ns.map fun n => UInt8.ofNat n.toNat).toArray⟩
  | [], r => by simp
  | n :: ns, r => by
    rw [List.foldl_cons, push_bytes ns]
    apply ByteArray.ext
    apply Array.ext'
    simp [ByteArray.push]

theorem convB2s_ok (hi : Inv w g s.hp s.nx) (he : Env w g bx s.env a.tmps) {src dst e : TypeId} {x : Operand} (hs : P.underlying src = some (.slice e)) (hu : P.underlying e = some (.int .u8))
    (hd : P.underlying dst = some .string) (ho : o.op = .convert src dst x) : Reads P w g bx s a o (evConv .b2s (opd x) s) := by
  unfold evConv
  split
  · rename_i y hy
    refine Reads.opt fun z hz => ?_
    have hr := v_opd he hy
    unfold bytesO at hz
    split at hz
    · rename_i cs k hrow
      split at hz
      · rename_i b hb
        cases hz
        have hne : ∀ t, y ≠ .str t := fun t ht => by subst ht; cases hrow
        have hrow : s.row 1 y = some (cs, k) := by cases y <;> first | exact hrow | exact absurd rfl (hne _)
        rcases row_ok hi hr hrow with ⟨A, cap, ys, hv, hcap, hys, hyl, hyc, hA, hcell⟩ | ⟨t, _, ht, _⟩
        · obtain ⟨ns, rfl, rfl⟩ := toBytes_ok hb hys
          refine ⟨.string ⟨(ns.map fun n => UInt8.ofNat n.toNat).toArray⟩, ?_, by simp only [Rep]⟩
          simp only [execOp, ho, hv, Sem.run_bind]
          rw [run_convert_bytes_string w src dst e A k cap hs hu hd]
          cases A with
          | none =>
            have := hA rfl
            subst this
            have : ns = [] := by simpa using hyl
            subst this
            rfl
          | some A =>
            have hload : (loadCells A k).run P w = .ok (ns.map (Value.int .u8)).toArray w := by
              have hk : (ns.map (Value.int .u8)).length = k := by rw [hyl]; omega
              rw [← hk]
              refine run_loadCells_list (w := w) A _ fun j v hjv => ?_
              have hj : j < k := by have := (List.getElem?_eq_some_iff.1 hjv).1; omega
              obtain ⟨b, o', hAe, hc⟩ := hcell (by omega)
              cases hAe
              rw [addr_add]
              exact hc j v hjv
            rw [run_bytesToString w A k cap ns hload]
            simp [push_bytes, Sem.run_pure]
        · exact absurd ht (hne t)
      · cases hz
    · cases hz
  · exact Reads.none
end
end Go.Air

/- AIR: slices, indices, maps read, and the rest that reads alone. -/
open Go.MapKept
namespace Go.Air
variable [GL]

section
variable {P : Program} {w : World} {g : G} {bx : Nat → Option Nat} {s s' : St} {a : Act} {o : Oper} {e : E}

theorem optNat_ok (he : Env w g bx s.env a.tmps) {d n : Nat} {x : Option Operand} (h : s.optNat d (x.map opd) = some n) : (x.map a.eval = none ∧ n = d) ∨ ∃ k, x.map a.eval = some (.int k (.ofNat n)) := by
  cases x with
  | none => cases h; exact .inl ⟨rfl, rfl⟩
  | some x =>
    obtain ⟨k, hk, _⟩ := nat_opd he h
    exact .inr ⟨k, by simp [hk]⟩

theorem bounds_ok (isS : Bool) {len cap l h m : Nat} {low high mx : Option Value} (hl : (low = none ∧ l = 0) ∨ ∃ k, low = some (.int k (.ofNat l)))
    (hh : (high = none ∧ mx = none ∧ h = len) ∨ ∃ k, high = some (.int k (.ofNat h))) (hm : (mx = none ∧ m = cap) ∨ ∃ k, mx = some (.int k (.ofNat m))) (h1 : l ≤ h) (h2 : h ≤ m) (h3 : m ≤ cap) :
    (Instr.sliceBounds isS len cap low high mx).run P w = .ok (l, h, m) w := by
  have sb : ∀ (k : IntKind) (i y : Nat) (code : BoundsCode), i ≤ y → (Instr.sliceBound (.int k (.ofNat i)) y code).run P w = .ok i w := fun k i y code hi => by
    have := run_sliceBound (P := P) w k (.ofNat i) y code (Int.natCast_nonneg _) (Int.ofNat_le.2 hi)
    rw [this]; rfl
  unfold Instr.sliceBounds
  rcases hm with ⟨rfl, rfl⟩ | ⟨k, rfl⟩
  · rcases hh with ⟨rfl, _, rfl⟩ | ⟨k, rfl⟩
    · rcases hl with ⟨rfl, rfl⟩ | ⟨k, rfl⟩
      · simp only [Sem.run_bind, Sem.run_pure, Result.andThen_ok]
      · simp only [Sem.run_bind, Sem.run_pure, Result.andThen_ok, sb _ _ _ _ h1]
    · rcases hl with ⟨rfl, rfl⟩ | ⟨k, rfl⟩
      · simp only [Sem.run_bind, Sem.run_pure, Result.andThen_ok, sb _ _ _ _ h2]
      · simp only [Sem.run_bind, Sem.run_pure, Result.andThen_ok, sb _ _ _ _ h2, sb _ _ _ _ h1]
  · rcases hh with ⟨_, h0, _⟩ | ⟨k, rfl⟩
    · cases h0
    · rcases hl with ⟨rfl, rfl⟩ | ⟨k, rfl⟩
      · simp only [Sem.run_bind, Sem.run_pure, Result.andThen_ok, sb _ _ _ _ h3, sb _ _ _ _ h2]
      · simp only [Sem.run_bind, Sem.run_pure, Result.andThen_ok, sb _ _ _ _ h3, sb _ _ _ _ h2, sb _ _ _ _ h1]

theorem and_le {x y : Bool} (h : (x && y) = true) : x = true ∧ y = true := by simpa using h

theorem slstr_ok (he : Env w g bx s.env a.tmps) {t : TypeId} {x : Operand} {lo hi : Option Operand} (ht : P.underlying t = some .string) (ho : o.op = .slice t x lo hi none) :
    Reads P w g bx s a o (evSlstr (opd x) (lo.map opd) (hi.map opd) s) := by
  unfold evSlstr
  split
  · rename_i b hb
    split
    · rename_i l hl
      split
      · rename_i h hh
        refine Reads.opt fun z hz => ?_
        obtain ⟨h1, h2⟩ := gd_some hz
        obtain ⟨h1, h3⟩ := and_le h1
        have h1 := Nat.le_of_ble_eq_true h1
        have h3 := Nat.le_of_ble_eq_true h3
        rw [lenR_eq] at h3
        rw [lenR_eq] at hh
        cases h2
        have hr := v_opd he hb
        simp only [Rep] at hr
        have hsz : (⟨b.toArray⟩ : ByteArray).size = b.length := by simp [ByteArray.size]
        have hbd := bounds_ok (P := P) (w := w) false (len := b.length) (cap := b.length) (l := l) (h := h) (m := b.length) (low := lo.map a.eval) (high := hi.map a.eval) (mx := none)
          (optNat_ok he hl) (by rcases optNat_ok he hh with ⟨h, h'⟩ | h; exact .inl ⟨h, rfl, h'⟩; exact .inr h) (.inl ⟨rfl, rfl⟩) h1 h3 (Nat.le_refl _)
        refine ⟨.string ((⟨b.toArray⟩ : ByteArray).extract l h), ?_, ?_⟩
        · simp only [execOp, ho, Option.map_none, Sem.run_bind]
          rw [run_sliceAt_string w t _ _ _ _ ht]
          simp only [Instr.slice, Sem.run_bind, run_underlying ht, hr, Result.andThen_ok, Option.isSome_none, Bool.false_eq_true, if_false, hsz, hbd, Sem.run_pure]
        · simp only [Rep, dropR_eq, takeR_eq, Value.string.injEq]
          apply ByteArray.ext
          apply Array.ext'
          simp [ByteArray.data_extract, List.extract_eq_take_drop, List.drop_take]
      · exact Reads.none
    · exact Reads.none
  · exact Reads.none

theorem elem_of {t e : TypeId} {n : Nat} {agg : Bool} {z : List V} (h : elemP P t = some (e, n, agg, z)) :
    P.underlying t = some (.slice e) ∧ sizeP P e = some n ∧ n ≠ 0 ∧ agg = aggP P e ∧ zeroP P e = some z ∧ z.length = n := by
  unfold elemP at h
  split at h
  · rename_i e' he'
    split at h
    · cases h
    · rename_i n' z' hne hn hz
      split at h
      · rename_i hb
        cases h
        have := Nat.eq_of_beq_eq_true hb
        exact ⟨he', hn, fun h0 => hne h0, rfl, hz, this⟩
      · cases h
    · cases h
  · cases h

theorem sliced_run {t e : TypeId} {n : Nat} (ht : P.underlying t = some (.slice e)) (hn : sizeP P e = some n) {A : Option Addr} {len cap l h m : Nat} {low high mx : Option Value}
    (hb : (Instr.sliceBounds true len cap low high mx).run P w = .ok (l, h, m) w) :
    (Instr.sliceAt t (.slice A len cap) low high mx).run P w = .ok (.slice (if m = l then A else A.map (·.add (l * n))) (h - l) (m - l)) w := by
  have hs : (Instr.sliceAt t (.slice A len cap) low high mx).run P w = (Instr.slice t (.slice A len cap) low high mx).run P w := by
    simp [Instr.sliceAt, run_underlying ht]
  rw [hs]
  simp only [Instr.slice, Sem.run_bind, run_underlying ht, Result.andThen_ok, hb, run_sizeOf' hn, Sem.run_pure]

theorem three_some {d : Nat} {lo hi mx : Option Atom} {f : Nat → Nat → Nat → Option V} {r : E × St} (h : s.three d lo hi mx f = some r) :
    ∃ l h m z, s.optNat 0 lo = some l ∧ s.optNat d hi = some h ∧ s.optNat d mx = some m ∧ f l h m = some z ∧ r = (.v z, s) := by
  unfold St.three at h
  split at h
  · rename_i l hl
    split at h
    · rename_i h' hh
      split at h
      · rename_i m hm
        cases hf : f l h' m with
        | none => rw [hf] at h; cases h
        | some z => rw [hf] at h; cases h; exact ⟨l, h', m, z, hl, hh, hm, hf, rfl⟩
      · cases h
    · cases h
  · cases h

theorem hi_ok (he : Env w g bx s.env a.tmps) {hi mx : Option Operand} {d h : Nat} (hmx : mx = none ∨ hi ≠ none) (hh : s.optNat d (hi.map opd) = some h) :
    (hi.map a.eval = none ∧ mx.map a.eval = none ∧ h = d) ∨ ∃ k, hi.map a.eval = some (.int k (.ofNat h)) := by
  rcases optNat_ok he hh with ⟨h1, h2⟩ | h1
  · cases hi with
    | none =>
      rcases hmx with rfl | h3
      · exact .inl ⟨rfl, rfl, h2⟩
      · exact absurd rfl h3
    | some _ => cases h1
  · exact .inr h1

theorem slsl_ok (hi : Inv w g s.hp s.nx) (he : Env w g bx s.env a.tmps) {t e : TypeId} {n : Nat} {x : Operand} {lo hi' mx : Option Operand} (ht : P.underlying t = some (.slice e)) (hn : sizeP P e = some n)
    (hmx : mx = none ∨ hi' ≠ none) (ho : o.op = .slice t x lo hi' mx) : Reads P w g bx s a o (evSlsl n (opd x) (lo.map opd) (hi'.map opd) (mx.map opd) s) := by
  unfold evSlsl
  split
  · rename_i hx
    intro e s' hyp
    obtain ⟨l, h, m, z, hl, hh, hm, hz, heq⟩ := three_some hyp
    cases heq
    obtain ⟨h1, h2⟩ := gd_some hz
    obtain ⟨h1, h3⟩ := and_le h1
    obtain ⟨h3, h4⟩ := and_le h3
    have h1 := Nat.eq_of_beq_eq_true h1
    have h3 := Nat.eq_of_beq_eq_true h3
    have h4 := Nat.eq_of_beq_eq_true h4
    subst h1 h3 h4
    cases h2
    have hr := v_opd he hx
    simp only [Rep] at hr
    have hbd := bounds_ok (P := P) (w := w) true (len := 0) (cap := 0) (l := 0) (h := 0) (m := 0) (low := lo.map a.eval) (high := hi'.map a.eval) (mx := mx.map a.eval)
      (optNat_ok he hl) (hi_ok he hmx hh) (optNat_ok he hm) (by omega) (by omega) (by omega)
    refine ⟨rfl, .slice none 0 0, ?_, ER.v (by simp only [Rep])⟩
    simp only [execOp, ho, Sem.run_bind, hr, sliced_run ht hn hbd, Result.andThen_ok, Sem.run_pure]
    simp
  · rename_i c z es hx
    intro e s' hyp
    obtain ⟨l, h, m, q, hl, hh, hm, hz, heq⟩ := three_some hyp
    cases heq
    obtain ⟨h1, h2⟩ := gd_some hz
    obtain ⟨h1, h3⟩ := and_le h1
    obtain ⟨h3, h4⟩ := and_le h3
    obtain ⟨h4, h5⟩ := and_le h4
    have h1 := Nat.eq_of_beq_eq_true h1
    have h3 := Nat.le_of_ble_eq_true h3
    have h4 := Nat.le_of_ble_eq_true h4
    have h5 := Nat.le_of_ble_eq_true h5
    rw [lenR_eq] at h5 hh
    subst h1
    cases h2
    rw [dropR_eq, takeR_eq]
    have hr := v_opd he hx
    simp only [Rep] at hr
    obtain ⟨A, cap, b, off, hv, hcap, hA, hels⟩ := hr
    obtain ⟨m', hm1, hm2, hm3⟩ : ∃ m', ((mx.map a.eval = none ∧ m' = cap) ∨ ∃ k, mx.map a.eval = some (.int k (.ofNat m'))) ∧ h ≤ m' ∧ m' ≤ cap := by
      rcases optNat_ok he hm with ⟨h6, _⟩ | h6
      · exact ⟨cap, .inl ⟨h6, rfl⟩, by omega, Nat.le_refl _⟩
      · exact ⟨m, .inr h6, h4, by omega⟩
    have hbd := bounds_ok (P := P) (w := w) true (optNat_ok he hl) (hi_ok he hmx hh) hm1 h3 hm2 hm3
    refine ⟨rfl, _, by simp only [execOp, ho, Sem.run_bind, hv, sliced_run ht hn hbd, Result.andThen_ok, Sem.run_pure]; rfl, ER.v ?_⟩
    simp only [Rep]
    refine ⟨_, _, b, off + l * z, by rw [List.length_drop, List.length_take, Nat.min_eq_left (by omega)], by rw [List.length_drop, List.length_take]; omega, fun hne => ?_, ?_⟩
    · have hlt : l < h := by
        rcases Nat.lt_or_ge l h with h6 | h6
        · exact h6
        · exfalso; apply hne; apply List.drop_eq_nil_of_le; rw [List.length_take]; omega
      rw [if_neg (by omega), hA (fun h0 => by rw [h0] at h5; simp at h5; omega)]
      simp [addr_add]
    · exact (hels.take h).drop l (by rw [List.length_take]; omega)
  · rename_i id off k hx
    split
    · rename_i hmn
      intro e s' hyp
      obtain ⟨l, h, m, q, hl, hh, hm, hz, heq⟩ := three_some hyp
      cases heq
      unfold cutMsl at hz
      split at hz
      · rename_i t' z cs hob
        obtain ⟨h1, h2⟩ := gd_some hz
        obtain ⟨h1, h3⟩ := and_le h1
        obtain ⟨h8, h4⟩ := and_le h3
        have h1 := Nat.eq_of_beq_eq_true h1
        have h8 := Nat.le_of_ble_eq_true h8
        subst h1
        cases h2
        have hr := v_opd he hx
        simp only [Rep] at hr
        obtain ⟨hid, A, cap, hv, hcap, hA, hp⟩ := hr
        obtain ⟨_, p, hpp, hesz, arr, fr, hb, hf, hs, hc, hlen, hcells⟩ := hi.obj id _ hob
        have hpe := hp p hpp
        subst hesz
        have hle : h ≤ cap := by
          simp only [Bool.or_eq_true, Bool.and_eq_true] at h4
          rcases h4 with h4 | ⟨h5, h6⟩
          · have := Nat.le_of_ble_eq_true h4; omega
          · have h5 := lt_of_blt h5
            have h6 := Nat.le_of_ble_eq_true h6
            rw [lenR_eq] at h6
            have h7 : h * p.esz ≤ cap * p.esz := by omega
            exact Nat.le_of_mul_le_mul_right h7 h5
        have hmx' : mx = none := by cases mx with | none => rfl | some _ => cases hmn
        subst hmx'
        have hbd := bounds_ok (P := P) (w := w) true (len := k) (cap := cap) (m := cap) (mx := (none : Option Operand).map a.eval) (optNat_ok he hl) (hi_ok he (.inl rfl) hh) (.inl ⟨rfl, rfl⟩) h8 hle (Nat.le_refl _)
        have hAl : (if cap = l then some A else (some A).map (·.add (l * p.esz))) = some (if cap = l then A else A.add (l * p.esz)) := by split <;> rfl
        refine ⟨rfl, _, by simp only [execOp, ho, Sem.run_bind, hv, sliced_run ht hn hbd, Result.andThen_ok, Sem.run_pure, hAl]; rfl, ER.v ?_⟩
        simp only [Rep]
        refine ⟨hid, _, _, rfl, by omega, fun h0 => ?_, fun p' hp' => ?_⟩
        · obtain ⟨b, q, rfl, hq⟩ := hA (by omega)
          rw [if_neg (by omega), addr_add]
          exact ⟨b, q, by rw [Nat.add_assoc], hq⟩
        · rw [hpp] at hp'; cases hp'
          rw [Nat.sub_mul]
          have : l * p.esz ≤ cap * p.esz := Nat.mul_le_mul_right _ (by omega)
          omega
      · cases hz
    · exact Reads.none
  · exact Reads.none

/-! ### indices -/
theorem idxStr_ok (he : Env w g bx s.env a.tmps) {t : TypeId} {x i : Operand} (ht : P.underlying t = some .string) (ho : o.op = .index t x i) : Reads P w g bx s a o (evIdxStr (opd x) (opd i) s) := by
  unfold evIdxStr
  split
  · rename_i j hj
    split
    · rename_i b hb
      refine Reads.opt fun z hz => ?_
      obtain ⟨ik, hie, _⟩ := nat_opd he hj
      have hr := v_opd he hb
      simp only [Rep] at hr
      unfold byteAt at hz
      split at hz
      · rename_i c hc
        cases hz
        rw [nthR_eq] at hc
        refine ⟨.int .u8 c.toNat, ?_, by simp only [byteV, Rep]⟩
        have hlt : j < b.length := (List.getElem?_eq_some_iff.1 hc).1
        have hget : (⟨b.toArray⟩ : ByteArray)[j]? = some c := by
          have hsz : j < (⟨b.toArray⟩ : ByteArray).size := by simpa [ByteArray.size] using hlt
          rw [getElem?_pos (⟨b.toArray⟩ : ByteArray) j hsz]
          have := (List.getElem?_eq_some_iff.1 hc).2
          simp [ByteArray.getElem_eq_getElem_data, this]
        have h0 : (0 : Int) ≤ Int.ofNat j := Int.natCast_nonneg _
        simp only [execOp, ho, Instr.index, hr, hie, asIntOf, Sem.run_bind, run_underlying ht, Result.andThen_ok, Sem.run_pure]
        rw [if_pos h0]
        simp only [Int.toNat_natCast, Int.ofNat_eq_natCast, hget, Sem.run_pure, Result.andThen_ok]
      · cases hz
    · exact Reads.none
  · exact Reads.none

theorem idxAsl_ok (he : Env w g bx s.env a.tmps) {t e : TypeId} {n : Nat} {x i : Operand} (ht : P.underlying t = some (.slice e)) (hn : sizeP P e = some n) (ho : o.op = .indexAddr t x i) :
    Reads P w g bx s a o (evIdxAsl n (opd x) (opd i) s) := by
  unfold evIdxAsl
  split
  · rename_i j hj
    obtain ⟨ik, hie, _⟩ := nat_opd he hj
    have run : ∀ (A : Addr) (len cap : Nat), a.eval x = .slice (some A) len cap → j < len → (execOp a.eval o).run P w = .ok (.value (.pointer (some (A.add (j * n))))) w := by
      intro A len cap hv hlt
      have h0 : (0 : Int) ≤ Int.ofNat j ∧ Int.ofNat j < (len : Int) := ⟨Int.natCast_nonneg _, Int.ofNat_lt.2 hlt⟩
      simp only [execOp, ho, Instr.indexAt, hv, hie, asIntOf, Sem.run_bind, run_underlying ht, Result.andThen_ok, Sem.run_pure]
      rw [if_pos h0]
      simp only [Sem.run_bind, run_sizeOf' hn, Result.andThen_ok, Sem.run_pure, Int.toNat_natCast, Int.ofNat_eq_natCast]
    split
    · rename_i c z es hx
      refine Reads.gd fun hz => Reads.opt fun q hq => ?_
      have := Nat.eq_of_beq_eq_true hz
      subst this
      have hr := v_opd he hx
      simp only [Rep] at hr
      obtain ⟨A, cap, b, off, hv, hcap, hA, hels⟩ := hr
      unfold eltAt at hq
      split at hq
      · rename_i el hel
        cases hq
        rw [nthR_eq] at hel
        have hlt : j < es.length := (List.getElem?_eq_some_iff.1 hel).1
        have hA' := hA (fun h0 => by rw [h0] at hlt; simp at hlt)
        subst hA'
        obtain ⟨v, hrv, hs, hz', hc, hl⟩ := hels.get hel
        refine ⟨_, run _ _ _ hv hlt, ?_⟩
        simp only [Rep, addr_add]
        exact ⟨c, b, _, v.cells.toList, rfl, reps_cells hrv hs hc, hc, hl⟩
      · cases hq
    · rename_i id off k hx
      refine Reads.gd fun hlt => ?_
      have hlt := lt_of_blt hlt
      have hr := v_opd he hx
      simp only [Rep] at hr
      obtain ⟨hid, A, cap, hv, hcap, hA, hp⟩ := hr
      obtain ⟨b, q, rfl, hq⟩ := hA (by omega)
      refine Reads.val (run _ _ _ hv hlt) ?_
      simp only [Rep, addr_add]
      exact ⟨hid, b, q, by rw [Nat.add_assoc], hq⟩
    · exact Reads.none
  · exact Reads.none

/-! ### maps -/
theorem eqV_ok {x y : V} {u v : Value} {b : Bool} {d : TypeDesc} {str : Bool} (hk : keyO str (some x) = some x) (hd : if str then d = .string else ∃ k, d = .int k) (hx : Rep g x u) (hy : Rep g y v) (h : eqV x y = some b) :
    Instr.sameNow d u v = some b := by
  unfold eqV at h
  split at h
  · rename_i j m k n
    obtain ⟨h1, h2⟩ := gd_some h
    have h1 := (eqK_eq j k).1 h1
    subst h1
    cases h2
    simp only [Rep] at hx hy
    subst hx hy
    cases str with
    | true => cases hk
    | false =>
      obtain ⟨k, rfl⟩ := hd
      simp only [Instr.sameNow, if_true, eqI_eq]; rfl
  · rename_i t q
    cases h
    simp only [Rep] at hx hy
    subst hx hy
    cases str with
    | false => cases hk
    | true =>
      simp only [if_true] at hd
      subst hd
      simp only [Instr.sameNow, eqB_beq]
      congr 1
      show (t.toArray == q.toArray) = (t == q)
      simp
  · cases h

theorem keyO_some {str : Bool} {r : Option V} {x : V} (h : keyO str r = some x) : r = some x ∧ keyO str (some x) = some x := by
  unfold keyO at h
  split at h
  · split at h
    · cases h
    · cases h; exact ⟨rfl, rfl⟩
  · split at h
    · cases h; exact ⟨rfl, rfl⟩
    · cases h
  · cases h

/-- What a look-up finds. -/
theorem mapGet_ok {x : V} {u : Value} {d : TypeDesc} {str : Bool} (hk : keyO str (some x) = some x) (hd : if str then d = .string else ∃ k, d = .int k) (hx : Rep g x u) :
    ∀ {es : List (V × V)} {l : List MapEntry} {r : Option V} (i : Nat), MapsAt g es l → mapGet x es = some r →
      (r = none ∧ Instr.findNow d u l i = some none) ∨ ∃ y v j, r = some y ∧ Instr.findNow d u l i = some (some (j, v)) ∧ Rep g y v
  | _, _, r, i, .nil, h => by
    cases h
    exact .inl ⟨rfl, rfl⟩
  | _, _, r, i, .cons (k := k') (x := y) (e := e) (q := q) hk' hx' hm, h => by
    simp only [mapGet] at h
    split at h
    · rename_i hb
      cases h
      have := eqV_ok hk hd hx hk' hb
      exact .inr ⟨y, e.val, i, rfl, by simp only [Instr.findNow, this], hx'⟩
    · rename_i hb
      have := eqV_ok hk hd hx hk' hb
      rcases mapGet_ok hk hd hx (i + 1) hm h with ⟨h1, h2⟩ | ⟨y, v, j, h1, h2, h3⟩
      · exact .inl ⟨h1, by simp only [Instr.findNow, this, h2]⟩
      · exact .inr ⟨y, v, j, h1, by simp only [Instr.findNow, this, h2], h3⟩
    · cases h

theorem map_of {t e : TypeId} {b : Bool} (h : mapP P t = some (b, e)) : ∃ k d, P.underlying t = some (.map k e) ∧ P.underlying k = some d ∧ (if b then d = .string else ∃ k, d = .int k) := by
  unfold mapP at h
  split at h
  · rename_i k e' hm
    split at h
    · rename_i hs; cases h; exact ⟨k, _, hm, hs, rfl⟩
    · rename_i hs; cases h; exact ⟨k, _, hm, hs, _, rfl⟩
    · cases h
  · cases h

theorem key_leaf {str : Bool} {x : V} {u : Value} (hk : keyO str (some x) = some x) (hx : Rep g x u) : (∃ k n, u = .int k n) ∨ ∃ z, u = .string z := by
  unfold keyO at hk
  split at hk
  · rename_i k n heq
    cases heq
    simp only [Rep] at hx
    exact .inl ⟨_, _, hx⟩
  · rename_i b heq
    cases heq
    simp only [Rep] at hx
    exact .inr ⟨_, hx⟩
  · cases hk
theorem checkKey_ok {str : Bool} {k : TypeId} {d : TypeDesc} {u : Value} (hd : P.underlying k = some d) (hs : if str then d = .string else ∃ k, d = .int k) (em : Bool) :
    (Instr.checkKey em 10000 k u).run P w = .ok () w := by
  show (Instr.checkKey em (9999 + 1) k u).run P w = .ok () w
  unfold Instr.checkKey
  simp only [Sem.run_bind, run_underlying hd, Result.andThen_ok]
  cases str with
  | true => simp only [if_true] at hs; subst hs; rfl
  | false => obtain ⟨q, rfl⟩ := hs; rfl

theorem zv_ok {t : TypeId} {z : V} (h : zvP P t = some z) : ∃ v, (zeroValue t).run P w = .ok v w ∧ Rep g z v := by
  unfold zvP at h
  split at h
  · rename_i i hi
    split at h
    · rename_i v hv
      exact ⟨v, by simp [zeroValue, typeInfo, hi, hv], rep_ofVal g h⟩
    · cases h
  · cases h
theorem okV_rep {ok b : Bool} {x : V} {v : Value} (h : Rep g x v) : Rep g (okV ok x b) (if ok then .tuple #[v, .bool b] else v) := by
  cases ok with
  | true => simp only [okV, if_true, Rep, Reps]; exact ⟨_, rfl, v, _, rfl, h, _, _, rfl, rfl, rfl⟩
  | false => simpa [okV] using h

theorem lookup_ok (hi : Inv w g s.hp s.nx) (he : Env w g bx s.env a.tmps) {t e : TypeId} {b ok : Bool} {z : V} {x k : Operand} (hm : mapP P t = some (b, e)) (hz : zvP P e = some z)
    (ho : o.op = .lookup t x k ok) : Reads P w g bx s a o (evLookup b z (opd x) (opd k) ok s) := by
  obtain ⟨kt, d, ht, hd, hbd⟩ := map_of hm
  obtain ⟨zv, hzr, hzz⟩ := zv_ok (P := P) (w := w) (g := g) hz
  unfold evLookup
  split
  · rename_i kv hkv
    obtain ⟨hkv, hkk⟩ := keyO_some hkv
    have hkr := v_opd he hkv
    split
    · rename_i hx
      have hr := v_opd he hx
      simp only [Rep] at hr
      refine Reads.val (v := if ok then .tuple #[zv, .bool false] else zv) ?_ (okV_rep hzz)
      simp only [execOp, ho, Instr.lookup, Sem.run_bind, run_underlying ht, Result.andThen_ok, hr, Sem.run_pure, checkKey_ok hd hbd, MapKept.run_findKey hd (l := []) (a := none) rfl, hzr]
    · rename_i id hx
      refine Reads.opt fun q hq => ?_
      have hr := v_opd he hx
      simp only [Rep] at hr
      obtain ⟨_, r, hv, hp⟩ := hr
      unfold lookO at hq
      split at hq
      · rename_i es hob
        obtain ⟨_, p, hpp, ents, clk, hb, hms⟩ := hi.obj id _ hob
        have := hp p hpp
        subst this
        cases hg : mapGet kv es with
        | none => rw [hg] at hq; cases hq
        | some r =>
          rw [hg] at hq
          rcases mapGet_ok hkk hbd hkr 0 hms hg with ⟨rfl, hf⟩ | ⟨y, v, j, rfl, hf, hyv⟩
          · cases hq
            refine ⟨if ok then .tuple #[zv, .bool false] else zv, ?_, okV_rep hzz⟩
            simp only [execOp, ho, Instr.lookup, Sem.run_bind, run_underlying ht, Result.andThen_ok, hv, MapKept.run_getObj_map hb, Sem.run_pure, checkKey_ok hd hbd, MapKept.run_findKey hd hf, hzr]
          · cases hq
            refine ⟨if ok then .tuple #[v, .bool true] else v, ?_, okV_rep hyv⟩
            simp only [execOp, ho, Instr.lookup, Sem.run_bind, run_underlying ht, Result.andThen_ok, hv, MapKept.run_getObj_map hb, Sem.run_pure, checkKey_ok hd hbd, MapKept.run_findKey hd hf]
      · cases hq
    · exact Reads.none
  · exact Reads.none

/-! ### lengths, least and greatest, type assertions, structs -/
theorem MapsAt.length {es : List (V × V)} {l : List MapEntry} (h : MapsAt g es l) : l.length = es.length := by
  induction h with
  | nil => rfl
  | cons _ _ _ ih => simp [ih]

def kindAt : Nat → TypeDesc → Prop
  | 0, .string => True
  | 1, .slice _ => True
  | 2, .map _ _ => True
  | _, _ => False

theorem len_ok (hi : Inv w g s.hp s.nx) (he : Env w g bx s.env a.tmps) {t : TypeId} {d : TypeDesc} {kd : Nat} {c : Call} {x : Operand} (hd : P.underlying t = some d) (hk : kindAt kd d)
    (ho : o.op = .call c) (hc : c.callee = .builtin .len) (ha : c.args.toList = [x]) (hts : c.argTypes.toList = [t]) : Reads P w g bx s a o (evLen kd (opd x) s) := by
  have ha' : c.args = #[x] := by rw [← ha]
  have ht' : c.argTypes = #[t] := by rw [← hts]
  have run : ∀ v n, a.eval x = v → (Builtin.len_ #[t] o.type #[v]).run P w = .ok (.int .i64 (Int.ofNat n)) w → (execOp a.eval o).run P w = .ok (.value (.int .i64 (Int.ofNat n))) w := by
    intro v n hv hl
    simp only [execOp, ho, resolve, hc, ha', ht', Sem.run_bind, Sem.run_pure, Result.andThen_ok, invoke, builtin, List.map_toArray, List.map_cons, List.map_nil, hv, hl]
  unfold evLen
  split
  · rename_i b hx
    refine Reads.gd fun h0 => ?_
    have := Nat.eq_of_beq_eq_true h0
    subst this
    have hr := v_opd he hx
    simp only [Rep] at hr
    cases d <;> simp only [kindAt] at hk
    refine Reads.val (run _ b.length hr ?_) (by simp only [lenV, Rep, lenR_eq])
    simp [Builtin.len_, run_underlying hd, goInt]
    rfl
  · rename_i hx
    refine Reads.gd fun h0 => ?_
    have := Nat.eq_of_beq_eq_true h0
    subst this
    have hr := v_opd he hx
    simp only [Rep] at hr
    cases d <;> simp only [kindAt] at hk
    refine Reads.val (run _ 0 hr ?_) (by simp only [lenV, Rep])
    simp [Builtin.len_, run_underlying hd, goInt]
  · rename_i c z es hx
    refine Reads.gd fun h0 => ?_
    have := Nat.eq_of_beq_eq_true h0
    subst this
    have hr := v_opd he hx
    simp only [Rep] at hr
    obtain ⟨A, cap, b, off, hv, _⟩ := hr
    cases d <;> simp only [kindAt] at hk
    refine Reads.val (run _ es.length hv ?_) (by simp only [lenV, Rep, lenR_eq])
    simp [Builtin.len_, run_underlying hd, goInt]
  · rename_i id off n hx
    refine Reads.gd fun h0 => ?_
    have := Nat.eq_of_beq_eq_true h0
    subst this
    have hr := v_opd he hx
    simp only [Rep] at hr
    obtain ⟨_, A, cap, hv, _⟩ := hr
    cases d <;> simp only [kindAt] at hk
    refine Reads.val (run _ n hv ?_) (by simp only [lenV, Rep])
    simp [Builtin.len_, run_underlying hd, goInt]
  · rename_i hx
    refine Reads.gd fun h0 => ?_
    have := Nat.eq_of_beq_eq_true h0
    subst this
    have hr := v_opd he hx
    simp only [Rep] at hr
    cases d <;> simp only [kindAt] at hk
    refine Reads.val (run _ 0 hr ?_) (by simp only [lenV, Rep])
    simp [Builtin.len_, run_underlying hd, goInt]
  · rename_i id hx
    refine Reads.gd fun h0 => Reads.opt fun q hq => ?_
    have := Nat.eq_of_beq_eq_true h0
    subst this
    have hr := v_opd he hx
    simp only [Rep] at hr
    obtain ⟨_, r, hv, hp⟩ := hr
    unfold lenM at hq
    split at hq
    · rename_i es hob
      cases hq
      obtain ⟨_, p, hpp, ents, clk, hb, hms⟩ := hi.obj id _ hob
      have := hp p hpp
      subst this
      cases d <;> simp only [kindAt] at hk
      refine ⟨_, run _ es.length hv ?_, by simp only [lenV, Rep, lenR_eq]⟩
      have hl := hms.length
      simp only [Array.length_toList] at hl
      simp [Builtin.len_, run_underlying hd, goInt, MapKept.run_getObj_map hb, hl]
    · cases hq
  · exact Reads.none

theorem mmAll_ok {mx : Bool} (f : Value → Value → Sem Value) (hf : ∀ (k k' : IntKind) (x y : Int), (f (.int k x) (.int k' y)).run P w = .ok (.int k (mmI mx x y)) w) (k : IntKind) :
    ∀ (l : List V) (ys : List Value) (x z : Int), Reps g l ys → mmAll mx x l = some z → (ys.foldlM f (.int k x)).run P w = .ok (.int k z) w
  | [], ys, x, z, hr, h => by
    simp only [mmAll, Option.some.injEq] at h
    simp only [Reps] at hr
    subst h hr
    rfl
  | y :: r, ys, x, z, hr, h => by
    unfold mmAll at h
    split at h
    · rename_i h0; cases h0
    · rename_i x' k' n r' heq
      cases heq
      simp only [Reps] at hr
      obtain ⟨v, q, rfl, hv, hq⟩ := hr
      simp only [Rep] at hv
      subst hv
      simp only [List.foldlM_cons, Sem.run_bind, hf, Result.andThen_ok]
      exact mmAll_ok f hf k _ q _ z hq h
    · cases h
theorem mm_ok (he : Env w g bx s.env a.tmps) {mx : Bool} {c : Call} (ho : o.op = .call c) (hc : c.callee = .builtin (bif mx then .max else .min)) :
    Reads P w g bx s a o (evMm mx (c.args.toList.map opd) s) := by
  refine Reads.opt fun q hq => ?_
  unfold mmV at hq
  split at hq
  · rename_i k x r hvs
    split at hq
    · rename_i z hz
      cases hq
      have hr := vs_opd he _ hvs
      simp only [Reps] at hr
      obtain ⟨y, ys, heq, hy, hys⟩ := hr
      simp only [Rep] at hy
      subst hy
      refine ⟨.int k z, ?_, by simp only [Rep]⟩
      have hargs : (c.args.map a.eval).toList = .int k x :: ys := by simpa using heq
      cases mx with
      | true =>
        simp only [cond_true] at hc
        have := mmAll_ok (P := P) (w := w) (g := g) (mx := true) Builtin.max2 (fun k k' x y => by
          simp only [Builtin.max2, Sem.run_pure, mmI, ltI_eq, gt_iff_lt]
          by_cases h : x < y <;> simp [h]) k r ys x z hys hz
        simp only [execOp, ho, resolve, hc, Sem.run_bind, Sem.run_pure, Result.andThen_ok, invoke, builtin, Builtin.max_, hargs, this]
      | false =>
        simp only [cond_false] at hc
        have := mmAll_ok (P := P) (w := w) (g := g) (mx := false) Builtin.min2 (fun k k' x y => by
          simp only [Builtin.min2, Sem.run_pure, mmI, ltI_eq]
          by_cases h : y < x <;> simp [h]) k r ys x z hys hz
        simp only [execOp, ho, resolve, hc, Sem.run_bind, Sem.run_pure, Result.andThen_ok, invoke, builtin, Builtin.min_, hargs, this]
    · cases hq
  · cases hq

theorem tassert_ok (he : Env w g bx s.env a.tmps) {t u : TypeId} {d : TypeDesc} {z : V} {ok : Bool} {x : Operand} (hd : P.underlying t = some d) (hni : ∀ ms, d ≠ .interface ms) (hz : zvP P t = some z)
    (ho : o.op = .typeAssert x u t ok) : Reads P w g bx s a o (evTassert t z ok (opd x) s) := by
  obtain ⟨zv, hzr, hzz⟩ := zv_ok (P := P) (w := w) (g := g) hz
  have fail : ∀ v, a.eval x = v → (v = .nilIface ∨ ∃ t' y, v = .iface t' y ∧ t' ≠ t) → ok = true → (execOp a.eval o).run P w = .ok (.value (.tuple #[zv, .bool false])) w := by
    intro v hv h hok
    subst hok
    rcases h with rfl | ⟨t', y, rfl, hne⟩
    · simp only [execOp, ho, hv, Instr.typeAssert, Sem.run_bind, run_underlying hd, Result.andThen_ok]
      cases d <;> first | exact absurd rfl (hni _) | simp [hzr, Sem.run_pure, Result.andThen_ok]
    · simp only [execOp, ho, hv, Instr.typeAssert, Sem.run_bind, run_underlying hd, Result.andThen_ok]
      cases d <;> first | exact absurd rfl (hni _) | simp [hne, hzr, Sem.run_pure, Result.andThen_ok]
  have hzt : Rep g (.tup [z, .bool false]) (.tuple #[zv, .bool false]) := by
    simp only [Rep, Reps]; exact ⟨_, rfl, zv, _, rfl, hzz, _, _, rfl, rfl, rfl⟩
  unfold evTassert
  split
  · rename_i u' y hx
    have hr := v_opd he hx
    simp only [Rep] at hr
    obtain ⟨yv, hv, hy⟩ := hr
    split
    · rename_i hb
      have := Nat.eq_of_beq_eq_true hb
      subst this
      refine Reads.val (v := if ok then .tuple #[yv, .bool true] else yv) ?_ (okV_rep hy)
      simp only [execOp, ho, hv, Instr.typeAssert, Sem.run_bind, run_underlying hd, Result.andThen_ok]
      cases d <;> first | exact absurd rfl (hni _) | simp [Sem.run_pure, Result.andThen_ok]
    · rename_i hb
      have hne : u' ≠ t := fun h => by subst h; simp at hb
      exact Reads.gd fun hok => Reads.val (fail _ hv (.inr ⟨u', yv, rfl, hne⟩) hok) hzt
  · rename_i hx
    have hr := v_opd he hx
    simp only [Rep] at hr
    exact Reads.gd fun hok => Reads.val (fail _ hr (.inl rfl) hok) hzt
  · exact Reads.none
end
end Go.Air
