/- AIR: one operation, calls too. -/
import Derived.Test.YtkedfokcclpihaaGreatDoorAirConv
import Derived.Scope
import Derived.Defers
set_option linter.unusedSectionVars false
set_option linter.unusedSimpArgs false
set_option linter.unusedVariables false
set_option linter.unnecessarySimpa false
namespace Go.Air
variable [GL]

/-- What a call comes to, be the function one with a body or one of the runtime's. -/
def CallsN (P : Program) (f : FuncId) (args : Array Value) (w : World) (R : Value → World → Prop) : Prop :=
  match (callFunc f args).run P w with
  | .ok (.value v) w' => R v w'
  | .ok (.enter f args) w' => Calls P f args w' fun
    | .returned v, w'' => R v w''
    | _, _ => False
  | _ => False

/-- A caller that is right. -/
def CallOk (P : Program) (call : Caller) : Prop :=
  ∀ f xs hp nx v hp' nx', call f xs hp nx false = some (v, hp', nx') → ∀ w g args, Inv w g hp nx → Reps g xs args.toList →
    CallsN P f args w fun u w' => ∃ g', Rep g' v u ∧ Inv w' g' hp' nx' ∧ Step w g w' g'
/-- A table of methods that is right. -/
def MethsOk (P : Program) (ms : Meths) : Prop :=
  ∀ t name f off, ms t name = some (f, off) → ∀ (w : World) (b o : Nat),
    (method (P.types.size + Made.depth) t (.pointer (some ⟨b, o, none⟩)) name).run P w = .ok (f, .pointer (some ⟨b, o + off, none⟩)) w ∧
    (nilAhead (P.types.size + Made.depth) t (.pointer (some ⟨b, o, none⟩)) name).run P w = .ok (some false) w

section
variable {P : Program} {rc : Bool} {nt : Nat} {w0 : World} {g0 : G} {w w1 : World} {g : G} {bx : Nat → Option Nat} {s s' : St} {a : Act} {o : Oper}

theorem evCall_ok {call : Caller} (hcall : CallOk P call) (h : Sim rc nt w0 g0 w g bx s a) {r : Option (Nat × List V)}
    (hr : ∀ f xs, r = some (f, xs) → ∃ args : Array Value, (execOp a.eval o).run P w = (callFunc f args).run P w ∧ Reps g xs args.toList) : Acts P rc nt w0 g0 w bx a o (evCall call s r) := by
  unfold evCall
  split
  · rename_i f xs
    obtain ⟨args, hrun, hargs⟩ := hr f xs rfl
    unfold callR
    split
    · rename_i v hp nx hc
      have hcn := hcall f xs s.hp s.nx v hp nx hc w g args h.inv hargs
      intro e s1 heq next Q hn
      cases heq
      unfold Oper.wp
      rw [hrun]
      unfold CallsN at hcn
      split at hcn
      · rename_i u w' hrun'
        obtain ⟨g', hv, hin, st⟩ := hcn
        rw [hrun']
        exact hn u w' g' a (h.go st hin) hv
      · rename_i f' args' w' hrun'
        rw [hrun']
        refine Calls.mono hcn fun e w'' he => ?_
        cases e with
        | returned u =>
          obtain ⟨g', hv, hin, st⟩ := he
          exact hn u w'' g' a (h.go st hin) hv
        | panicked c => exact he.elim
        | outgrown => exact he.elim
      · exact hcn.elim
    · exact Acts.none
  · exact Acts.none

theorem methT_ok {ms : Meths} (hms : MethsOk P ms) {name : String} {ys : List V} {vs : List Value} (hr : Reps g ys vs) {f : Nat} {xs : List V} (h : methT ms name ys = some (f, xs)) :
    ∃ t b k rest, vs = .iface t (.pointer (some ⟨b, k, none⟩)) :: rest ∧
      ∃ u, (method (P.types.size + Made.depth) t (.pointer (some ⟨b, k, none⟩)) name).run P w = .ok (f, u) w ∧ Reps g xs (u :: rest) := by
  unfold methT at h
  split at h
  · rename_i t id off ys'
    split at h
    · rename_i f' off' hm
      cases h
      simp only [Reps, Rep] at hr
      obtain ⟨y, q, rfl, ⟨yv, rfl, hid, b, k, rfl, hp⟩, hq⟩ := hr
      obtain ⟨h1, _⟩ := hms t name f off' hm w b (k + off)
      refine ⟨t, b, k + off, q, rfl, _, h1, ?_⟩
      simp only [Reps, Rep]
      exact ⟨_, q, rfl, ⟨hid, b, k, by rw [Nat.add_assoc], hp⟩, hq⟩
    · cases h
  · cases h

theorem targetF_ok {ms : Meths} (hms : MethsOk P ms) {F : V} {fv : Value} {ys : List V} {vs : Array Value} (hF : Rep g F fv) (hys : Reps g ys vs.toList) {f : Nat} {xs : List V} (h : targetF ms ys F = some (f, xs)) :
    ∃ args : Array Value, (do let d ← Deferred.ofValue fv vs; invoke d.target d.args : Sem Next).run P w = (callFunc f args).run P w ∧ Reps g xs args.toList := by
  unfold targetF at h
  split at h
  · rename_i k x y
    cases h
    simp only [Rep] at hF
    obtain ⟨A, B, rfl, hA, hB⟩ := hF
    rw [appR_eq, appR_eq]
    refine ⟨A ++ vs ++ B, ?_, by simpa using hA.append (hys.append hB)⟩
    simp only [Deferred.ofValue, Sem.run_bind, Sem.run_pure, Result.andThen_ok, invoke]
  · rename_i name x y
    simp only [Rep] at hF
    obtain ⟨A, B, rfl, hA, hB⟩ := hF
    rw [appR_eq] at h
    obtain ⟨t, b, k, rest, hvs, u, hm, hr⟩ := methT_ok (w := w) hms (hA.append hys) h
    have hvs' : A ++ vs = #[.iface t (.pointer (some ⟨b, k, none⟩))] ++ rest.toArray := by
      apply Array.ext'
      simpa using hvs
    refine ⟨#[u] ++ rest.toArray, ?_, by simpa using hr⟩
    simp only [Deferred.ofValue, Sem.run_bind, Sem.run_pure, Result.andThen_ok, invoke, hvs']
    have h0 : (#[Value.iface t (.pointer (some ⟨b, k, none⟩))] ++ rest.toArray)[0]? = some (.iface t (.pointer (some ⟨b, k, none⟩))) := by simp
    have h1 : (#[Value.iface t (.pointer (some ⟨b, k, none⟩))] ++ rest.toArray).extract 1 (#[Value.iface t (.pointer (some ⟨b, k, none⟩))] ++ rest.toArray).size = rest.toArray := by
      apply Array.ext'
      simp
    simp only [h0, h1, callMethod, Sem.run_bind, run_program, Result.andThen_ok, hm]
  · cases h

theorem call_ok {call : Caller} {ms : Meths} (hcall : CallOk P call) (hms : MethsOk P ms) (h : Sim rc nt w0 g0 w g bx s a) {c : Call} {f : Operand} (ho : o.op = .call c) (hc : c.callee = .value f) :
    Acts P rc nt w0 g0 w bx a o (evCall call s (tgtCall ms s (opd f) (c.args.toList.map opd))) := by
  refine evCall_ok hcall h fun k xs hx => ?_
  unfold tgtCall at hx
  split at hx
  · rename_i F hF
    split at hx
    · rename_i ys hys
      have hFr := v_opd h.env hF
      have hyr := vs_opd h.env _ hys
      obtain ⟨args, hrun, hr⟩ := targetF_ok (w := w) (vs := c.args.map a.eval) hms hFr (by simpa using hyr) hx
      refine ⟨args, ?_, hr⟩
      simp only [execOp, ho, resolve, hc]
      exact hrun
    · cases hx
  · cases hx

theorem invoke_ok {call : Caller} {ms : Meths} (hcall : CallOk P call) (hms : MethsOk P ms) (h : Sim rc nt w0 g0 w g bx s a) {c : Call} {r : Operand} {name : String} (ho : o.op = .call c) (hc : c.callee = .invoke r name) :
    Acts P rc nt w0 g0 w bx a o (evCall call s (tgtInvoke ms s (opd r) name (c.args.toList.map opd))) := by
  refine evCall_ok hcall h fun k xs hx => ?_
  unfold tgtInvoke at hx
  split at hx
  · rename_i F hF
    split at hx
    · rename_i ys hys
      have hFr := v_opd h.env hF
      have hyr := vs_opd h.env _ hys
      have hall : Reps g (F :: ys) (a.eval r :: c.args.toList.map a.eval) := by simp only [Reps]; exact ⟨_, _, rfl, hFr, hyr⟩
      obtain ⟨t, b, k', rest, hvs, u, hm, hr⟩ := methT_ok (w := w) hms hall hx
      have e1 : a.eval r = .iface t (.pointer (some ⟨b, k', none⟩)) := (List.cons.inj hvs).1
      have e2 : c.args.toList.map a.eval = rest := (List.cons.inj hvs).2
      refine ⟨#[u] ++ rest.toArray, ?_, by simpa using hr⟩
      have hvs' : #[a.eval r] ++ c.args.map a.eval = #[.iface t (.pointer (some ⟨b, k', none⟩))] ++ rest.toArray := by
        apply Array.ext'
        rw [Array.toList_append, Array.toList_map, e1, e2]
        simp
      have h0 : (#[Value.iface t (.pointer (some ⟨b, k', none⟩))] ++ rest.toArray)[0]? = some (.iface t (.pointer (some ⟨b, k', none⟩))) := by simp
      have h1 : (#[Value.iface t (.pointer (some ⟨b, k', none⟩))] ++ rest.toArray).extract 1 (#[Value.iface t (.pointer (some ⟨b, k', none⟩))] ++ rest.toArray).size = rest.toArray := by
        apply Array.ext'
        simp
      simp only [execOp, ho, resolve, hc, Sem.run_bind, Sem.run_pure, Result.andThen_ok, hvs', invoke]
      simp only [h0, h1, callMethod, Sem.run_bind, run_program, Result.andThen_ok, hm]
    · cases hx
  · cases hx

theorem nilM_ok {ms : Meths} (hms : MethsOk P ms) (he : Env w g bx s.env a.tmps) {x : Operand} (ho : o.op = .nilCheck x) : Reads P w g bx s a o (evNilM ms (opd x) s) := by
  unfold evNilM
  split
  · rename_i name t i off b hx
    split
    · rename_i q hq
      have hr := v_opd he hx
      have hr' := hr
      simp only [Rep, Reps] at hr
      obtain ⟨A, B, hv, ⟨y, q', hA, ⟨yv, rfl, hid, bb, k, rfl, hp⟩, rfl⟩, hB⟩ := hr
      obtain ⟨f', off'⟩ := q
      obtain ⟨_, h2⟩ := hms t name f' off' hq w bb (k + off)
      refine Reads.val (v := a.eval x) ?_ hr'
      have hA' : A = #[.iface t (.pointer (some ⟨bb, k + off, none⟩))] := by apply Array.ext'; simpa using hA
      subst hA'
      have h0 : (#[Value.iface t (.pointer (some ⟨bb, k + off, none⟩))])[0]? = some (.iface t (.pointer (some ⟨bb, k + off, none⟩))) := rfl
      simp only [execOp, ho, hv, h0, Sem.run_bind, run_program, Result.andThen_ok, h2]
      rfl
    · exact Reads.none
  · exact Reads.none
theorem orElse_ok {r q : OpR} (h1 : Acts P rc nt w0 g0 w bx a o r) (h2 : Acts P rc nt w0 g0 w bx a o q) : Acts P rc nt w0 g0 w bx a o (orElse' r q) := by
  cases r with
  | none => exact h2
  | some x => exact h1
end
end Go.Air

/- AIR: what a loaded operation becomes does what it does. -/
namespace Go.Air
variable [GL]

section
variable {P : Program} {rc : Bool} {nt : Nat} {w0 : World} {g0 : G} {w w1 : World} {g : G} {bx : Nat → Option Nat} {s s' : St} {a : Act} {o : Oper} {call : Caller} {ms : Meths}

theorem stuck_ok : Acts P rc nt w0 g0 w bx a o (evStep call ms .stuck s) := Acts.none
theorem ite_ok {c : Prop} [Decidable c] {x y : AOp} (h1 : Acts P rc nt w0 g0 w bx a o (evStep call ms x s)) (h2 : Acts P rc nt w0 g0 w bx a o (evStep call ms y s)) :
    Acts P rc nt w0 g0 w bx a o (evStep call ms (if c then x else y) s) := by
  split
  · exact h1
  · exact h2
theorem panic_ok {x : Atom} : Acts P rc nt w0 g0 w bx a o (evStep call ms (.panic x) s) := Acts.none

theorem eql_ok (h : Sim rc nt w0 g0 w g bx s a) {neg : Bool} {op : BinOp} {t t' : TypeId} {x y : Operand} (hop : op = bif neg then .neq else .eql) (ho : o.op = .binOp op t x y t') :
    Acts P rc nt w0 g0 w bx a o (evStep call ms (cEq P neg op t x y) s) := by
  unfold cEq
  split
  · exact (bin_ok h.env ho).acts h
  · split
    · rename_i k hk
      exact (eqx_ok h.env hop hk ho).acts h
    · exact stuck_ok

theorem cCall_ok (hcall : CallOk P call) (hms : MethsOk P ms) (h : Sim rc nt w0 g0 w g bx s a) {c : Call} {ty : TypeId} (ho : o.op = .call c) (hr : rc = false ∨ cCall P c ty ≠ .recover) :
    Acts P rc nt w0 g0 w bx a o (evStep call ms (cCall P c ty) s) := by
  revert hr
  unfold cCall
  split
  · rename_i f hc
    exact fun _ => call_ok hcall hms h ho hc
  · rename_i r name hc
    exact fun _ => invoke_ok hcall hms h ho hc
  · rename_i b hc
    split
    · rename_i x t ha hts
      split
      · rename_i hd; exact fun _ => (len_ok h.inv h.env hd (kd := 0) trivial ho hc ha hts).acts h
      · rename_i hd; exact fun _ => (len_ok h.inv h.env hd (kd := 1) trivial ho hc ha hts).acts h
      · rename_i hd; exact fun _ => (len_ok h.inv h.env hd (kd := 2) trivial ho hc ha hts).acts h
      · rename_i n e hd
        intro _
        have ha' : c.args = #[x] := by rw [← ha]
        have ht' : c.argTypes = #[t] := by rw [← hts]
        have hrun : (execOp a.eval o).run P w = .ok (.value (goInt n)) w := by
          simp only [execOp, ho, resolve, hc, ha', ht', Sem.run_bind, Sem.run_pure, Result.andThen_ok, invoke, builtin, List.map_toArray, List.map_cons, List.map_nil]
          simp [Builtin.len_, run_underlying hd]
        exact Acts.of_value hrun h (by show Rep _ _ _; simp only [Rep, goInt])
      · exact fun _ => stuck_ok
    · rename_i x y t u ha hts
      split
      · rename_i e n _ _ e' he hu
        split
        · rename_i hb
          obtain ⟨_, hb⟩ := and_le hb
          exact fun _ => append_ok h he hb (.inl ⟨e', hu⟩) ho hc ha hts
        · exact fun _ => stuck_ok
      · rename_i e n _ _ he hu
        split
        · rename_i hb
          obtain ⟨hb, _⟩ := and_le hb
          exact fun _ => append_ok h he hb (.inr hu) ho hc ha hts
        · exact fun _ => stuck_ok
      · exact fun _ => stuck_ok
    · rename_i x y t u ha hts
      split
      · rename_i he
        exact fun _ => copy_ok h he ho hc ha hts
      · exact fun _ => stuck_ok
    · exact fun _ => (mm_ok h.env (mx := false) ho hc).acts h
    · exact fun _ => (mm_ok h.env (mx := true) ho hc).acts h
    · rename_i m k t u ha hts
      split
      · rename_i b e hm
        exact fun _ => delete_ok h hm ho hc ha hts
      · exact fun _ => stuck_ok
    · intro hr
      rcases hr with hr | hr
      · have hrc : s.rc = false := h.rcf.trans hr
        have hnone : evRecover s = none := by unfold evRecover; rw [hrc]
        show Acts P rc nt w0 g0 w bx a o (evRecover s)
        rw [hnone]
        exact Acts.none
      · exact absurd rfl hr
    · exact fun _ => panic_ok
    · exact fun _ => stuck_ok

theorem step_ok (hcall : CallOk P call) (hms : MethsOk P ms) (h : Sim rc nt w0 g0 w g bx s a) (heap : List Nat) (hr : rc = false ∨ cOp P heap o ≠ .recover) : Acts P rc nt w0 g0 w bx a o (evStep call ms (cOp P heap o) s) := by
  generalize hop : o.op = op
  cases op <;> simp only [cOp, hop]
  case move x => exact (mov_ok h.env (.inl hop)).acts h
  case assign x => exact (mov_ok h.env (.inr hop)).acts h
  case pick c x y => exact (pick_ok h.env hop).acts h
  case alloc e =>
    split
    · rename_i z hz
      exact ite_ok (halloc_ok h hz hop) (box_ok h hz hop)
    · exact stuck_ok
  case box e x =>
    split
    · exact ite_ok (hboxv_ok h hop) (boxv_ok h hop)
    · exact stuck_ok
  case build t ps =>
    split
    · rename_i pl hpl
      split
      · rename_i z l hz hl
        exact (build_ok h hpl hz hl hop).acts h
      · exact stuck_ok
    · exact stuck_ok
  case buildSlice t n ps =>
    split
    · rename_i e z ag ze he
      split
      · rename_i hsm
        have hsm := Nat.le_of_ble_eq_true hsm
        exact ite_ok (mkmsl_ok h he hsm hop) (mkisl_ok h he hsm hop)
      · exact stuck_ok
    · exact stuck_ok
  case load t x =>
    split
    · rename_i n hn
      exact (load_ok h.inv h.env hn hop).acts h
    · exact stuck_ok
  case store t x y =>
    split
    · rename_i n hn
      exact store_ok h hn hop
    · exact stuck_ok
  case nilCheck x => exact orElse_ok ((nilchk_ok h.env hop).acts h) ((nilM_ok hms h.env hop).acts h)
  case binOp op t x y t' =>
    split
    · exact eql_ok h (neg := false) rfl hop
    · exact eql_ok h (neg := true) rfl hop
    · exact (bin_ok h.env hop).acts h
  case unOp op t x => exact (un_ok h.env hop).acts h
  case convert src dst x =>
    split
    · rename_i hs hd; exact (convWrap_ok h.env hs hd hop).acts h
    · rename_i hs hd; exact (convSame_ok h.env hs hd hop).acts h
    · rename_i e hs hd
      split
      · rename_i hu; exact s2b_ok h hs hd hu hop
      · exact stuck_ok
    · rename_i e hs hd
      split
      · rename_i hu; exact (convB2s_ok h.inv h.env hs hu hd hop).acts h
      · exact stuck_ok
    · exact stuck_ok
  case makeInterface t x =>
    split
    · exact stuck_ok
    · exact stuck_ok
    · rename_i h1 h2
      refine (mkif_ok h.env ?_ hop).acts h
      cases hu : P.underlying t with
      | none => exact absurd hu h2
      | some d => exact ⟨d, rfl, fun ms hd => h1 ms (by rw [hu, hd])⟩
  case makeFunc f x y => exact (mkfn_ok h.env hop).acts h
  case makeMap t r =>
    cases r with
    | none => exact mkmap_ok h hop
    | some r => exact stuck_ok
  case makeSlice t l c =>
    split
    · rename_i e n ag z he
      split
      · rename_i hb; exact mksl_ok h he hb hop
      · exact stuck_ok
    · exact stuck_ok
  case slice t x lo hi mx =>
    split
    · rename_i ht
      cases mx with
      | none => exact (slstr_ok h.env ht hop).acts h
      | some m => exact stuck_ok
    · split
      · rename_i e n ag z he
        obtain ⟨ht, hn, _⟩ := elem_of he
        cases mx with
        | none => exact (slsl_ok h.inv h.env ht hn (.inl rfl) hop).acts h
        | some m =>
          cases hi with
          | none => exact stuck_ok
          | some hh => exact (slsl_ok h.inv h.env ht hn (.inr (by simp)) hop).acts h
      · exact stuck_ok
    · exact stuck_ok
  case fieldAddr t x f =>
    split
    · rename_i hf; exact (fieldA_ok h.env hf hop).acts h
    · exact stuck_ok
  case field t x f =>
    split
    · rename_i hf; exact (field_ok h.env hf hop).acts h
    · exact stuck_ok
  case indexAddr t x i =>
    split
    · split
      · rename_i e n ag z he
        obtain ⟨ht, hn, _⟩ := elem_of he
        exact (idxAsl_ok h.env ht hn hop).acts h
      · exact stuck_ok
    · rename_i k e ht
      split
      · rename_i n hn; exact (idxAarr_ok h.env ht hn hop).acts h
      · exact stuck_ok
    · exact stuck_ok
  case index t x i =>
    split
    · rename_i ht; exact (idxStr_ok h.env ht hop).acts h
    · rename_i k e ht
      split
      · rename_i n hn; exact (idxArr_ok h.env ht hn hop).acts h
      · exact stuck_ok
    · exact stuck_ok
  case lookup t x k ok =>
    split
    · rename_i b e hm
      split
      · rename_i z hz; exact (lookup_ok h.inv h.env hm hz hop).acts h
      · exact stuck_ok
    · exact stuck_ok
  case mapUpdate t m k x =>
    split
    · rename_i b e hm; exact mapset_ok h hm (.inl hop)
    · exact stuck_ok
  case insert t m k x =>
    split
    · rename_i b e hm; exact mapset_ok h hm (.inr hop)
    · exact stuck_ok
  case typeAssert x u t ok =>
    split
    · exact stuck_ok
    · rename_i d z hni hu hz
      exact (tassert_ok h.env hu hni hz hop).acts h
    · exact stuck_ok
  case extract x i => exact (extract_ok h.env hop).acts h
  case call c => exact cCall_ok hcall hms h hop (by simpa only [cOp, hop] using hr)
  case defer c =>
    split
    · rename_i f hc; exact defer_ok h hop hc
    · exact stuck_ok
  case panic x => exact panic_ok
  all_goals exact stuck_ok
end
end Go.Air

/- AIR: operations in a row. -/
namespace Go.Air
variable [GL]

section
variable {P : Program} {rc : Bool} {nt : Nat} {w0 : World} {g0 : G} {w w1 : World} {g : G} {bx : Nat → Option Nat} {s s' : St} {a : Act} {o : Oper} {call : Caller} {ms : Meths}

theorem isB_ok (he : Env w g bx s.env a.tmps) {ops : Array Oper} {j d : Nat} {wt b : Bool} (hj : (ops[j]?).bind (·.dst) = some d) (h : isB wt (lget s.env d) = some b) : (yielded ops a.tmps j == some wt) = b := by
  unfold isB at h
  split at h
  · rename_i x hx
    have hr := he.at_ d _ hx
    simp only [EnvAt] at hr
    split at h
    · rename_i c
      simp only [Rep] at hr
      have hget : a.tmps[d]? = some (.bool c) := by
        rw [Array.getD_eq_getD_getElem?] at hr
        cases ht : a.tmps[d]? with
        | none => rw [ht] at hr; simp [undef] at hr
        | some v => rw [ht] at hr; simp at hr; rw [hr]
      have hy : yielded ops a.tmps j = some c := by simp only [yielded, hj, Option.bind_some, hget]
      rw [hy]
      simp only [Option.some.injEq] at h
      rw [← h]
      cases wt <;> cases c <;> rfl
    · simp only [Rep] at hr
      obtain ⟨ys, hr, _⟩ := hr
      have hy : yielded ops a.tmps j = none := by
        simp only [yielded, hj, Option.bind_some]
        rw [Array.getD_eq_getD_getElem?] at hr
        cases ht : a.tmps[d]? with
        | none => rfl
        | some v => rw [ht] at hr; simp at hr; rw [hr]
      rw [hy]
      cases h
      rfl
    · cases h
  · cases h

/-- One operation of a region. -/
def OneOk (P : Program) (ops : Array Oper) (o : Oper) (a : Act) (w : World) (K : Act → World → Prop) (Q : Exit → Act → World → Prop) : Prop :=
  if Region.wanted o (yielded ops a.tmps) then o.wp P a w K Q else K (a.put o.dst undef) w

theorem frzS_some {d : Option Nat} {fs : List (Option Nat × Nat × Bool)} {r : OpR} (h : frzS d fs r = some s') : ∃ e s1, r = some (e, s1) := by
  cases r with
  | none => cases h
  | some x => exact ⟨x.1, x.2, rfl⟩

theorem run_one (hcall : CallOk P call) (hms : MethsOk P ms) (h : Sim rc nt w0 g0 w g bx s a) (heap : List Nat) (hr : rc = false ∨ cOp P heap o ≠ .recover) {d : Option Nat} (hd : d = o.dst) (hdn : ∀ i, d = some i → i < nt)
    {fs : List (Option Nat × Nat × Bool)} (hs : frzS d fs (evStep call ms (cOp P heap o) s) = some s') {K : Act → World → Prop} {Q : Exit → Act → World → Prop}
    (hK : ∀ w1 g1 bx1 a1, Sim rc nt w0 g0 w1 g1 bx1 s' a1 → K a1 w1) : o.wp P a w K Q := by
  obtain ⟨e, s1, hev⟩ := frzS_some hs
  rw [hev] at hs
  refine step_ok hcall hms h heap hr e s1 hev K Q fun v w1 g1 a1 h1 hv => ?_
  obtain ⟨g', bx', h'⟩ := frzS_ok h1 hdn hv hs
  rw [← hd]
  exact hK w1 g' bx' _ h'

theorem stuckOper_none : evOne call ms stuckOper s = none := rfl

theorem one_ok (hcall : CallOk P call) (hms : MethsOk P ms) (h : Sim rc nt w0 g0 w g bx s a) {hn : Hint} {ops : Array Oper} (hr : rc = false ∨ (cOper P hn nt ops.toList o).op ≠ .recover)
    (hs : evOne call ms (cOper P hn nt ops.toList o) s = some s') {K : Act → World → Prop} {Q : Exit → Act → World → Prop}
    (hK : ∀ w1 g1 bx1 a1, Sim rc nt w0 g0 w1 g1 bx1 s' a1 → K a1 w1) : OneOk P ops o a w K Q := by
  unfold OneOk
  revert hs hr
  unfold cOper
  split
  · intro _ hs; rw [stuckOper_none] at hs; cases hs
  · rename_i hb
    have hdn : ∀ i, o.dst = some i → i < nt := by
      intro i hi
      unfold dstOk at hb
      rw [hi] at hb
      exact lt_of_blt hb
    split
    · rename_i hg
      intro hr hs
      have hw : Region.wanted o (yielded ops a.tmps) = true := by unfold Region.wanted; rw [hg]
      rw [if_pos hw]
      exact run_one hcall hms h hn.heap hr rfl hdn hs hK
    · rename_i j wt hg
      split
      · rename_i d hj
        intro hr hs
        have hs' : ifW (isB wt (lget s.env d)) (frzS o.dst (frzOf hn o) (evStep call ms (cOp P hn.heap o) s)) (putR o.dst (.v (.tup [])) s) = some s' := hs
        unfold ifW at hs'
        split at hs'
        · rename_i b hbb
          have hy := isB_ok h.env (by rw [← Array.getElem?_toList]; exact hj) hbb
          have hw : Region.wanted o (yielded ops a.tmps) = b := by unfold Region.wanted; rw [hg]; exact hy
          rw [hw]
          cases b with
          | true =>
            rw [if_pos rfl]
            exact run_one hcall hms h hn.heap hr rfl hdn hs' hK
          | false =>
            have hs2 : putR o.dst (.v (.tup [])) s = some s' := hs'
            obtain ⟨bx', h'⟩ := putR_ok h hdn (v := undef) (e := .v (.tup [])) (by show Rep _ _ _; simp only [Rep]; exact ⟨#[], rfl, by simp [Reps]⟩) hs2
            exact hK w g bx' _ h'
        · cases hs'
      · intro _ hs; rw [stuckOper_none] at hs; cases hs

/-- Operations in the text's order. -/
theorem ops_ok (hcall : CallOk P call) (hms : MethsOk P ms) {hn : Hint} {ops : Array Oper} {Q : Exit → Act → World → Prop} : ∀ (n k : Nat) {w : World} {g : G} {bx : Nat → Option Nat} {s : St} {a : Act}, n + k = ops.size →
    Sim rc nt w0 g0 w g bx s a → (rc = false ∨ ∀ o ∈ ops.toList, (cOper P hn nt ops.toList o).op ≠ .recover) → ∀ {s' : St}, evOps call ms ((ops.toList.drop k).map (cOper P hn nt ops.toList)) s = some s' →
    (∀ w1 g1 bx1 a1, Sim rc nt w0 g0 w1 g1 bx1 s' a1 → Q .normal a1 w1) → wpOps P ops Q ((List.range ops.size).drop k) a w
  | 0, k, w, g, bx, s, a, hk, h, hr, s', hs, hQ => by
    have h1 : ops.toList.drop k = [] := List.drop_eq_nil_of_le (by simp; omega)
    have h2 : (List.range ops.size).drop k = [] := List.drop_eq_nil_of_le (by simp; omega)
    rw [h1] at hs
    rw [h2]
    have hs' : some s = some s' := hs
    cases hs'
    exact hQ w g bx a h
  | n + 1, k, w, g, bx, s, a, hk, h, hr, s', hs, hQ => by
    have hlt : k < ops.size := by omega
    have h1 : ops.toList.drop k = ops[k] :: ops.toList.drop (k + 1) := by
      rw [List.drop_eq_getElem_cons (by simpa using hlt)]; simp
    have h2 : (List.range ops.size).drop k = k :: (List.range ops.size).drop (k + 1) := by
      rw [List.drop_eq_getElem_cons (by simpa using hlt)]; simp
    rw [h1, List.map_cons] at hs
    rw [h2]
    have hs' : thenS (evOne call ms (cOper P hn nt ops.toList ops[k]) s) (evOps call ms ((ops.toList.drop (k + 1)).map (cOper P hn nt ops.toList))) = some s' := hs
    unfold thenS at hs'
    split at hs'
    · rename_i s1 h3
      have hone := one_ok (Q := Q) (K := wpOps P ops Q ((List.range ops.size).drop (k + 1))) hcall hms h (hr.imp id fun h => h _ (by simp)) h3 fun w1 g1 bx1 a1 h4 =>
        ops_ok hcall hms n (k + 1) (by omega) h4 hr hs' hQ
      simp only [wpOps, Array.getElem?_eq_getElem hlt]
      unfold OneOk at hone
      split
      · rename_i hw; rw [if_pos hw] at hone; exact .inl hone
      · rename_i hw; rw [if_neg hw] at hone; exact hone
    · cases hs'

theorem keepL_lget (env : List (Nat × E)) : ∀ (l : List Nat) (t : Nat) (e : E), lget (keepL env l) t = some e → lget env t = some e
  | [], t, e, h => by simp [keepL, lget] at h
  | x :: r, t, e, h => by
    have h' : lget (consE x (lget env x) (keepL env r)) t = some e := h
    unfold consE at h'
    split at h'
    · rename_i y hy
      rw [lget_cons] at h'
      split at h'
      · rename_i hx
        subst hx
        cases h'
        exact hy
      · exact keepL_lget env r t e h'
    · exact keepL_lget env r t e h'

theorem Env.sub {env env' : List (Nat × E)} {tmps : Array Value} (he : Env w g bx env tmps) (hs : ∀ t e, lget env' t = some e → lget env t = some e) :
    Env w g (fun t => if (lget env' t).isSome then bx t else none) env' tmps := by
  have hbx : ∀ t b, (if (lget env' t).isSome then bx t else none) = some b → bx t = some b ∧ ∃ e, lget env' t = some e := fun t b h => by
    split at h
    · rename_i h1; exact ⟨h, Option.isSome_iff_exists.1 h1⟩
    · cases h
  have hk : ∀ t e b, lget env' t = some e → bx t = some b → (if (lget env' t).isSome then bx t else none) = some b := fun t e b h1 h2 => by
    rw [h1]; exact h2
  refine ⟨fun t e h => ?_, fun t b h => ?_, fun t u b h1 h2 => he.inj t u b (hbx t b h1).1 (hbx u b h2).1, fun t b id p h1 h2 => he.hp t b id p (hbx t b h1).1 h2, fun t b c o h => he.unl t b c o (hbx t b h).1⟩
  · have hat := he.at_ t e (hs t e h)
    cases e with
    | v x => exact hat
    | box cs =>
      obtain ⟨b, h1, h2⟩ := hat
      exact ⟨b, hk t _ b h h1, h2⟩
    | lp u off =>
      obtain ⟨b, h1, h2⟩ := hat
      exact ⟨b, h1, fun cs hc => hk u _ b hc (h2 cs (hs u _ hc))⟩
  · obtain ⟨h1, e, h2⟩ := hbx t b h
    obtain ⟨cs, h3⟩ := he.box t b h1
    have h4 := hs t e h2
    rw [h3] at h4
    cases h4
    exact ⟨cs, h2⟩
theorem Sim.sub {env' : List (Nat × E)} (h : Sim rc nt w0 g0 w g bx s a) (hs : ∀ t e, lget env' t = some e → lget s.env t = some e) :
    ∃ bx', Sim rc nt w0 g0 w g bx' ⟨env', s.hp, s.nx, s.dfs, s.rc⟩ a := by
  refine ⟨_, h.inv, h.env.sub hs, h.size, h.dfs, h.step, fun t b hb => ?_, h.rcf⟩
  split at hb
  · exact h.own t b hb
  · cases hb
theorem keep_ok (h : Sim rc nt w0 g0 w g bx s a) (keep : Option (List Nat)) : ∃ bx', Sim rc nt w0 g0 w g bx' (keepEnv s keep) a := by
  cases keep with
  | none => exact ⟨bx, h⟩
  | some l => exact h.sub (keepL_lget s.env l)

/-- A region that does not draw. -/
theorem region_ok (hcall : CallOk P call) (hms : MethsOk P ms) (h : Sim rc nt w0 g0 w g bx s a) {hn : Hint} {id : Nat} {ops : Array Oper} {keep : Option (List Nat)} {Q : Exit → Act → World → Prop}
    (hr : rc = false ∨ ∀ o ∈ ops.toList, (cOper P hn nt ops.toList o).op ≠ .recover)
    (hs : evRegion call ms (ops.toList.map (cOper P hn nt ops.toList)) none keep s = some s') (hQ : ∀ w1 g1 bx1 a1, Sim rc nt w0 g0 w1 g1 bx1 s' a1 → Q .normal a1 w1) : (Code.region id ops false).wp P Q a w := by
  have hs' : keepO keep (evOps call ms (ops.toList.map (cOper P hn nt ops.toList)) s) = some s' := hs
  unfold keepO at hs'
  split at hs'
  · rename_i s1 h1
    cases hs'
    refine wp_region ?_
    have := ops_ok (ops := ops) (hn := hn) (Q := Q) (rc := rc) hcall hms ops.size 0 (by omega) h hr (s' := s1) (by simpa using h1) fun w1 g1 bx1 a1 h2 => by
      obtain ⟨bx', h3⟩ := keep_ok h2 keep
      exact hQ w1 g1 bx' a1 h3
    simpa using this
  · cases hs'
end
end Go.Air

/- AIR: code. -/
namespace Go.Air
variable [GL]

theorem least (p : Nat → Prop) : (∃ n, p n) → ∃ n, p n ∧ ∀ m, p m → n ≤ m := by
  rintro ⟨n, h⟩
  induction n using Nat.strongRecOn with
  | _ n ih =>
    by_cases hm : ∃ m, m < n ∧ p m
    · obtain ⟨m, hlt, hp⟩ := hm
      exact ih m hlt hp
    · exact ⟨n, h, fun m hp => Nat.le_of_not_lt fun hlt => hm ⟨m, hlt, hp⟩⟩

section
variable {P : Program} {Q : Exit → Act → World → Prop}

/-- A loop that a number bounds. -/
theorem wp_loop_n {c : Code} (I : Nat → Act → World → Prop) {n : Nat} {a : Act} {w : World} (h0 : I n a w)
    (round : ∀ n a w, I n a w → ∃ m, n = m + 1 ∧ c.wp P (Exit.then (fun a' w' => I m a' w') Q) a w) : (Code.loop c).wp P Q a w := by
  classical
  let μ : Act → World → Nat := fun a w => if h : ∃ n, I n a w then Classical.choose (least (fun n => I n a w) h) else 0
  have hμ : ∀ a w, (∃ n, I n a w) → I (μ a w) a w ∧ ∀ m, I m a w → μ a w ≤ m := fun a w h => by
    have := Classical.choose_spec (least (fun n => I n a w) h)
    simp only [μ, dif_pos h]
    exact this
  refine wp_loop (fun a w => ∃ n, I n a w) μ ⟨n, h0⟩ fun a w h => ?_
  obtain ⟨h1, _⟩ := hμ a w h
  obtain ⟨m, hm, hwp⟩ := round _ a w h1
  refine wp_mono hwp fun e a' w' hq => ?_
  cases e with
  | normal =>
    have hI : I m a' w' := hq
    refine ⟨⟨m, hI⟩, ?_⟩
    have := (hμ a' w' ⟨m, hI⟩).2 m hI
    omega
  | _ => exact hq
end

def Out.exit' : Out → Exit
  | .normal => .normal
  | .exit id => .exit id
  | .ret => .ret

section
variable {P : Program} {nt : Nat} {w0 : World} {g0 : G} {call : Caller} {ms : Meths}

/-- What code comes to. -/
def CodeOk (P : Program) (rc : Bool) (nt : Nat) (w0 : World) (g0 : G) (c : Code) (f : St → CodeR) : Prop :=
  ∀ ⦃w : World⦄ ⦃g : G⦄ ⦃bx : Nat → Option Nat⦄ ⦃s : St⦄ ⦃a : Act⦄, Sim rc nt w0 g0 w g bx s a → ∀ ⦃o : Out⦄ ⦃s' : St⦄, f s = some (o, s') → ∀ ⦃Q : Exit → Act → World → Prop⦄,
    (∀ w1 g1 bx1 a1, Sim rc nt w0 g0 w1 g1 bx1 s' a1 → Q o.exit' a1 w1) → c.wp P Q a w

/-- The regions that draw. -/
def DrawOk (P : Program) (call : Caller) (ms : Meths) : Prop :=
  ∀ (rc : Bool) (nt : Nat) (w0 : World) (g0 : G) (hn : Hint) (id : Nat) (ops : Array Oper), CodeOk P rc nt w0 g0 (.region id ops true) (evCode call ms 0 (cRegion P hn nt id ops true))

theorem loopR_ok {rc : Bool} {c : Code} {f : St → CodeR} (hc : CodeOk P rc nt w0 g0 c f) (n : Nat) : CodeOk P rc nt w0 g0 (.loop c) (loopR f n) := by
  intro w g bx s a h o s' hs Q hQ
  refine wp_loop_n (fun n a w => ∃ g bx s, Sim rc nt w0 g0 w g bx s a ∧ loopR f n s = some (o, s')) ⟨g, bx, s, h, hs⟩ fun n a w hI => ?_
  obtain ⟨g, bx, s, h, hs⟩ := hI
  cases n with
  | zero => cases hs
  | succ m =>
    refine ⟨m, rfl, ?_⟩
    have hs' : seqR (f s) (loopR f m) = some (o, s') := hs
    unfold seqR at hs'
    split at hs'
    · rename_i o1 s1 h1
      split at hs'
      · exact hc h h1 fun w1 g1 bx1 a1 h2 => ⟨g1, bx1, s1, h2, hs'⟩
      · rename_i o2 hne
        cases hs'
        refine hc h h1 fun w1 g1 bx1 a1 h2 => ?_
        have := hQ w1 g1 bx1 a1 h2
        cases o with
        | normal => exact absurd rfl hne
        | exit id => exact this
        | ret => exact this
    · cases hs'

theorem noRec_ops {hn : Hint} {ops : Array Oper} {chk : Option Chk} {keep : Option (List Nat)} (h : noRecC (.region (ops.toList.map (cOper P hn nt ops.toList)) chk keep) = true) :
    ∀ o ∈ ops.toList, (cOper P hn nt ops.toList o).op ≠ .recover := by
  intro o ho hc
  have h' : (ops.toList.map (cOper P hn nt ops.toList)).all (fun o => !isRec o.op) = true := h
  rw [List.all_eq_true] at h'
  have := h' _ (List.mem_map_of_mem ho)
  rw [hc] at this
  cases this
theorem and2 {a b : Bool} {p : Prop} (h : p ∨ (a && b) = true) : (p ∨ a = true) ∧ (p ∨ b = true) := by
  cases a <;> cases b <;> simp at h ⊢ <;> exact h

theorem code_ok {rc : Bool} (hcall : CallOk P call) (hms : MethsOk P ms) (hdraw : DrawOk P call ms) (hn : Hint) (lf : Nat) : ∀ c : Code, (rc = false ∨ noRecC (cCode P hn nt c) = true) → CodeOk P rc nt w0 g0 c (evCode call ms lf (cCode P hn nt c))
  | .skip, hr => by
    intro w g bx s a h o s' hs Q hQ
    have hs' : some (Out.normal, s) = some (o, s') := hs
    cases hs'
    exact wp_skip (hQ w g bx a h)
  | .region id ops draw, hr => by
    intro w g bx s a h o s' hs Q hQ
    cases draw with
    | true => exact hdraw rc nt w0 g0 hn id ops h (by
        show evCode call ms 0 (cRegion P hn nt id ops true) s = some (o, s')
        have hs' : evCode call ms lf (cRegion P hn nt id ops true) s = some (o, s') := hs
        unfold cRegion at hs' ⊢
        rw [if_pos rfl] at hs' ⊢
        dsimp only at hs' ⊢
        split at hs'
        · rename_i hc; rw [if_pos hc]; exact hs'
        · cases hs') hQ
    | false =>
      have hs' : ofOR (evRegion call ms (ops.toList.map (cOper P hn nt ops.toList)) none (hnt hn.keep id) s) = some (o, s') := hs
      unfold ofOR at hs'
      split at hs'
      · rename_i s1 h1
        cases hs'
        exact region_ok hcall hms h (hr.imp (fun h => h) noRec_ops) h1 hQ
      · cases hs'
  | .seq x y, hr => by
    obtain ⟨hrx, hry⟩ := and2 (show rc = false ∨ (noRecC (cCode P hn nt x) && noRecC (cCode P hn nt y)) = true from hr)
    intro w g bx s a h o s' hs Q hQ
    have hs' : seqR (evCode call ms lf (cCode P hn nt x) s) (evCode call ms lf (cCode P hn nt y)) = some (o, s') := hs
    unfold seqR at hs'
    refine wp_seq ?_
    split at hs'
    · rename_i o1 s1 h1
      split at hs'
      · exact code_ok hcall hms hdraw hn lf x hrx h h1 fun w1 g1 bx1 a1 h2 => code_ok hcall hms hdraw hn lf y hry h2 hs' hQ
      · rename_i o2 hne
        cases hs'
        refine code_ok hcall hms hdraw hn lf x hrx h h1 fun w1 g1 bx1 a1 h2 => ?_
        have := hQ w1 g1 bx1 a1 h2
        cases o with
        | normal => exact absurd rfl hne
        | exit id => exact this
        | ret => exact this
    · cases hs'
  | .cond c x y, hr => by
    obtain ⟨hrx, hry⟩ := and2 (show rc = false ∨ (noRecC (cCode P hn nt x) && noRecC (cCode P hn nt y)) = true from hr)
    intro w g bx s a h o s' hs Q hQ
    have hs' : condR (s.v (opd c)) (evCode call ms lf (cCode P hn nt x) s) (evCode call ms lf (cCode P hn nt y) s) = some (o, s') := hs
    unfold condR at hs'
    split at hs'
    · rename_i t ht
      have hr := v_opd h.env ht
      simp only [Rep] at hr
      cases t with
      | true => exact wp_cond_true hr (code_ok hcall hms hdraw hn lf x hrx h hs' hQ)
      | false => exact wp_cond_false hr (code_ok hcall hms hdraw hn lf y hry h hs' hQ)
    · cases hs'
  | .block i b, hr => by
    intro w g bx s a h o s' hs Q hQ
    have hs' : blockR i (evCode call ms lf (cCode P hn nt b) s) = some (o, s') := hs
    unfold blockR at hs'
    refine wp_block ?_
    split at hs'
    · rename_i o1 s1 h1
      split at hs'
      · rename_i j
        split at hs'
        · rename_i hj
          have := Nat.eq_of_beq_eq_true hj
          subst this
          cases hs'
          exact code_ok hcall hms hdraw hn lf b hr h h1 fun w1 g1 bx1 a1 h2 => by
            show Exit.inBlock j Q (.exit j) a1 w1
            simp only [Exit.inBlock, if_true]
            exact hQ w1 g1 bx1 a1 h2
        · rename_i hj
          cases hs'
          exact code_ok hcall hms hdraw hn lf b hr h h1 fun w1 g1 bx1 a1 h2 => by
            show Exit.inBlock i Q (.exit j) a1 w1
            have hne : j ≠ i := fun he => by subst he; simp at hj
            simp only [Exit.inBlock, hne, if_false]
            exact hQ w1 g1 bx1 a1 h2
      · rename_i o2 hne
        cases hs'
        refine code_ok hcall hms hdraw hn lf b hr h h1 fun w1 g1 bx1 a1 h2 => ?_
        have := hQ w1 g1 bx1 a1 h2
        cases o with
        | normal => exact this
        | exit id => exact absurd rfl (hne id)
        | ret => exact this
    · cases hs'
  | .loop b, hr => loopR_ok (code_ok hcall hms hdraw hn lf b hr) lf
  | .exit i, hr => by
    intro w g bx s a h o s' hs Q hQ
    have hs' : some (Out.exit i, s) = some (o, s') := hs
    cases hs'
    exact wp_exit (hQ w g bx a h)
  | .scope b, hr => by
    intro w g bx s a h o s' hs Q hQ
    refine wp_scope_straight (code_ok hcall hms hdraw hn lf b hr h hs fun w1 g1 bx1 a1 h2 => ?_)
    have := hQ w1 g1 bx1 a1 h2
    cases o <;> exact this
  | .ret, hr => by
    intro w g bx s a h o s' hs Q hQ
    have hs' : some (Out.ret, s) = some (o, s') := hs
    cases hs'
    exact wp_ret (hQ w g bx a h)
  | .rangeFunc _ _ _ _, _ => by intro w g bx s a h o s' hs; cases hs
  | .label _, _ => by intro w g bx s a h o s' hs; cases hs
  | .goto _, _ => by intro w g bx s a h o s' hs; cases hs
  | .refuse _, _ => by intro w g bx s a h o s' hs; cases hs
end
end Go.Air

/- AIR: functions. -/
namespace Go.Air
variable [GL]

/-- A caller of deferred calls that is right. -/
def DefOk (P : Program) (call : Caller) : Prop :=
  ∀ f xs hp nx v hp' nx', call f xs hp nx true = some (v, hp', nx') → ∀ w g args, Inv w g hp nx → Reps g xs args.toList →
    (callFunc f args).run P w = .ok (.enter f args) w ∧
    CallsD P f args .returning w fun e u' w' => u' = .returning ∧ (∃ u, e = .returned u) ∧ ∃ g', Inv w' g' hp' nx' ∧ Step w g w' g'

section
variable {P : Program} {rc : Bool} {nt : Nat} {w0 : World} {g0 : G} {w w1 : World} {g : G} {bx : Nat → Option Nat} {s s' : St} {a : Act} {call : Caller} {ms : Meths}

/-- One result of a function. -/
def resOf (a : Act) : ResultVar → Sem Value
  | .tmp t => pure (a.tmps.getD t undef)
  | .cell b t => do loadVar t (← asAddr (a.tmps.getD b undef))

theorem res_ok (h : Sim rc nt w0 g0 w g bx s a) : ∀ (l : List ResultVar) {rs : List ARes} {vs : List V}, cRes P l = some rs → evRes s rs = some vs → ∃ ys, (l.mapM (resOf a)).run P w = .ok ys w ∧ Reps g vs ys
  | [], rs, vs, h1, h2 => by
    cases h1; cases h2
    exact ⟨[], rfl, by simp [Reps]⟩
  | .tmp t :: r, rs, vs, h1, h2 => by
    simp only [cRes, Option.map_eq_some_iff] at h1
    obtain ⟨rs', h3, rfl⟩ := h1
    unfold evRes at h2
    split at h2
    · rename_i x hx
      split at h2
      · rename_i xs hxs
        cases h2
        obtain ⟨ys, hrun, hr⟩ := res_ok h r h3 hxs
        have hv := v_opd h.env (x := .tmp t) hx
        refine ⟨a.tmps.getD t undef :: ys, ?_, ?_⟩
        · simp only [List.mapM_cons, resOf, Sem.run_bind, Sem.run_pure, Result.andThen_ok, hrun]
        · simp only [Reps]; exact ⟨_, _, rfl, hv, hr⟩
      · cases h2
    · cases h2
  | .cell b t :: r, rs, vs, h1, h2 => by
    unfold cRes at h1
    split at h1
    · rename_i n l' hn hl
      cases h1
      unfold evRes at h2
      split at h2
      · rename_i x hx
        split at h2
        · rename_i xs hxs
          cases h2
          obtain ⟨ys, hrun, hr⟩ := res_ok h r hl hxs
          obtain ⟨cs, hcs, hrd⟩ := rdO_some hx
          obtain ⟨e, hae, hat⟩ := atO_some hcs
          obtain ⟨hv, _⟩ := ad_opd h.env (x := .tmp b) hae
          obtain ⟨bb, off, zs, hp, hrz, hcz, hw⟩ := at_ok h.inv hv h.env hat
          obtain ⟨y, hy, hxy⟩ := loadVar_ok (P := P) hn hrz hcz hw hrd
          have hp' : a.tmps.getD b undef = .pointer (some ⟨bb, off, none⟩) := hp
          refine ⟨y :: ys, ?_, ?_⟩
          · simp only [List.mapM_cons, resOf, hp', asAddr, Sem.run_bind, Sem.run_pure, Result.andThen_ok, hy, hrun]
          · simp only [Reps]; exact ⟨_, _, rfl, hxy, hr⟩
        · cases h2
      · cases h2
    · cases h1

theorem frzRes_ok : ∀ (fs : List (Nat × Option Nat × Nat × Bool)) {g : G} {s : St} {xs : List V} {ys : List Value}, Sim rc nt w0 g0 w g bx s a → Reps g xs ys → ∀ {xs' : List V} {s' : St}, frzRes fs xs s = some (xs', s') →
    ∃ g', Sim rc nt w0 g0 w g' bx s' a ∧ Reps g' xs' ys
  | [], g, s, xs, ys, h, hr, xs', s', hf => by
    cases hf
    exact ⟨g, h, hr⟩
  | (j, p) :: r, g, s, xs, ys, h, hr, xs', s', hf => by
    unfold frzRes at hf
    split at hf
    · rename_i x hx
      rw [nthR_eq] at hx
      split at hf
      · rename_i x' s1 hp
        obtain ⟨y, hy, hxy⟩ := hr.get hx
        obtain ⟨g1, h1, he, hr1, _⟩ := frzPath_ok [p] h hxy hp
        refine frzRes_ok r h1 ((Reps.ext he _ _ hr).set fun z hz => ?_) hf
        rw [hy] at hz; cases hz; exact hr1
      · cases hf
    · cases hf

theorem results_run (fn : Func) (a : Act) {ys : List Value} (h : (fn.results.toList.mapM (resOf a)).run P w = .ok ys w) :
    (results fn a.tmps).run P w = .ok (if h : ys.toArray.size = 1 then ys.toArray[0] else .tuple ys.toArray) w := by
  have e : results fn a.tmps = (do let vs ← fn.results.mapM (resOf a); pure (if h : vs.size = 1 then vs[0] else .tuple vs)) := rfl
  rw [e, Array.mapM_eq_mapM_toList]
  simp only [Sem.run_bind, map_eq_pure_bind, h, Result.andThen_ok, Sem.run_pure]

theorem one_rep {xs : List V} {ys : List Value} (h : Reps g xs ys) : Rep g (one xs) (if h : ys.toArray.size = 1 then ys.toArray[0] else .tuple ys.toArray) := by
  have hl := h.length
  unfold one
  split
  · rename_i x
    simp only [Reps] at h
    obtain ⟨y, q, rfl, hx, rfl⟩ := h
    simpa using hx
  · rename_i hne
    have : ys.length ≠ 1 := fun h1 => by
      rw [hl] at h1
      obtain ⟨x, hx⟩ := List.length_eq_one_iff.1 h1
      exact hne x hx
    rw [dif_neg (by simpa using this)]
    simp only [Rep]
    exact ⟨_, rfl, by simpa using h⟩

/-- What a function leaves. -/
def Left (w0 : World) (g0 : G) (v : V) (hp : Heap) (nx : Nat) (u : Value) (w : World) : Prop := ∃ g', Rep g' v u ∧ Inv w g' hp nx ∧ Step w0 g0 w g'

theorem fin1_ok (h : Sim rc nt w0 g0 w g bx s a) {fn : Func} {rs : List ARes} {frz : List (Nat × Option Nat × Nat × Bool)} {v : V} {hp : Heap} {nx : Nat} (hrs : cRes P fn.results.toList = some rs) (hf : fin1 frz s (evRes s rs) = some (v, hp, nx)) :
    ∃ u, (results fn a.tmps).run P w = .ok u w ∧ Left w0 g0 v hp nx u w := by
  unfold fin1 at hf
  split at hf
  · rename_i vs hvs
    obtain ⟨ys, hrun, hr⟩ := res_ok h _ hrs hvs
    unfold fin2 at hf
    split at hf
    · rename_i vs' s1 hz
      cases hf
      obtain ⟨g', h', hr'⟩ := frzRes_ok frz h hr hz
      exact ⟨_, results_run fn a hrun, g', one_rep hr', h'.inv, h'.step⟩
    · cases hf
  · cases hf

/-- The deferred calls. -/
theorem defers_ok (hdef : DefOk P call) {fn : Func} {R : Ending → World → Prop} {env : List (Nat × E)} {tmps : Array Value} : ∀ (l : List (V × List V)) {w : World} {g : G} {hp : Heap} {nx : Nat} {m : List Deferred},
    Sim false nt w0 g0 w g bx ⟨env, hp, nx, l, false⟩ ⟨tmps, m⟩ → ∀ {hp' : Heap} {nx' : Nat}, evDefers call l hp nx = some (hp', nx') →
    (∀ w1 g1, Sim false nt w0 g0 w1 g1 bx ⟨env, hp', nx', [], false⟩ ⟨tmps, []⟩ → ∃ v, (results fn tmps).run P w1 = .ok v w1 ∧ R (.returned v) w1) → Leaves P fn tmps R m .returning w
  | [], w, g, hp, nx, m, h, hp', nx', hs, hR => by
    cases hs
    have hd := h.dfs
    cases hd
    exact hR w g h
  | (f, xs) :: r, w, g, hp, nx, m, h, hp', nx', hs, hR => by
    have hd := h.dfs
    cases hd
    rename_i d m hdat hrest
    obtain ⟨k, x, y, A, B, X, h1, h2, h3, hA, hB, hX⟩ := hdat
    simp only at h1
    subst h1
    unfold evDefers at hs
    split at hs
    · rename_i v1 hp1 nx1 hcall
      rw [appR_eq, appR_eq] at hcall
      have hargs : Reps g (x ++ (xs ++ y)) (A ++ X ++ B).toList := by simpa using hA.append (hX.append hB)
      obtain ⟨hen, hcd⟩ := hdef k _ hp nx v1 hp1 nx1 hcall w g (A ++ X ++ B) h.inv hargs
      show _ ∧ _
      refine ⟨by simp, .func k, B, k, A ++ X ++ B, h2, ?_, ?_⟩
      · rw [h2, h3]
        exact hen
      · refine CallsD.mono hcd fun e u' w' he => ?_
        obtain ⟨rfl, ⟨u, rfl⟩, g', hin, st⟩ := he
        have h' : Sim false nt w0 g0 w' g' bx ⟨env, hp1, nx1, r, false⟩ ⟨tmps, m⟩ :=
          ⟨hin, h.env.step st, h.size, hrest.ext st.ext, h.step.trans st, h.own, rfl⟩
        exact defers_ok hdef r h' hs hR
    · cases hs

theorem args0_lget : ∀ (l : List V) (i t : Nat), lget (args0 l i) t = if i ≤ t then (l[t - i]?).map E.v else none
  | [], i, t => by
    show lget [] t = _
    simp [lget]
  | x :: r, i, t => by
    show lget ((i, E.v x) :: args0 r (i + 1)) t = _
    rw [lget_cons, args0_lget r (i + 1) t]
    by_cases h : i = t
    · subst h; simp
    · rw [if_neg h]
      by_cases h2 : i ≤ t
      · rw [if_pos h2, if_pos (by omega)]
        obtain ⟨k, rfl⟩ : ∃ k, t = i + (k + 1) := ⟨t - i - 1, by omega⟩
        rw [show i + (k + 1) - i = k + 1 by omega, show i + (k + 1) - (i + 1) = k by omega]
        simp
      · rw [if_neg h2, if_neg (by omega)]

/-- The state at a function's start. -/
theorem sim_start {xs : List V} {args : Array Value} {hp : Heap} {nx n : Nat} (hi : Inv w g hp nx) (hr : Reps g xs args.toList) :
    Sim rc n w g w g (fun _ => none) ⟨args0 xs 0, hp, nx, [], rc⟩ { tmps := args ++ Array.replicate (n - args.size) undef, defers := [] } := by
  refine ⟨hi, ⟨fun t e ht => ?_, fun t b h => (by cases h), fun t u b h => (by cases h), fun t b id p h => (by cases h), fun t b c o h => (by cases h)⟩, by simp; omega, .nil, Step.refl w g, fun t b h => (by cases h), rfl⟩
  rw [args0_lget] at ht
  simp only [Nat.zero_le, if_true, Nat.sub_zero, Option.map_eq_some_iff] at ht
  obtain ⟨x, hx, rfl⟩ := ht
  obtain ⟨y, hy, hxy⟩ := hr.get hx
  rw [Array.getElem?_toList] at hy
  have hlt := (Array.getElem?_eq_some_iff.1 hy).1
  have : (args ++ Array.replicate (n - args.size) undef).getD t undef = y := by
    rw [Array.getD_eq_getD_getElem?, Array.getElem?_append_left hlt, hy]; rfl
  show Rep g x _
  rw [this]; exact hxy

theorem cFunc_some {hn : Hint} {fn : Func} {af : AFunc} (h : cFunc P hn fn = some af) : ∃ c rs, fn.body = some c ∧ cRes P fn.results.toList = some rs ∧ af = { results := rs, body := cCode P hn fn.ntmps c, frz := hn.ret } := by
  unfold cFunc at h
  split at h
  · rename_i c rs h1 h2
    cases h
    exact ⟨c, rs, h1, h2, rfl⟩
  · cases h

/-- A function that is called. -/
theorem body_ok (hcall : CallOk P call) (hdef : DefOk P call) (hms : MethsOk P ms) (hdraw : DrawOk P call ms) {lf f : Nat} {fn : Func} {hn : Hint} {af : AFunc} (hf : P.funcs[f]? = some fn) (hc : cFunc P hn fn = some af)
    {xs : List V} {hp hp' : Heap} {nx nx' : Nat} {v : V} (hev : evBody call ms lf af xs hp nx false = some (v, hp', nx')) {args : Array Value} (hi : Inv w g hp nx) (hr : Reps g xs args.toList) :
    Calls P f args w fun
      | .returned u, w' => Left w g v hp' nx' u w'
      | _, _ => False := by
  obtain ⟨c, rs, hb, hrs, rfl⟩ := cFunc_some hc
  obtain ⟨_, hev⟩ := gd_some hev
  refine calls_of_wp_defers hf hb ?_
  have h0 := sim_start (rc := false) (n := fn.ntmps) hi hr
  unfold endR at hev
  split at hev
  · rename_i o s1 hcode
    have hfin : ∀ w1 g1 bx1 a1, Sim false fn.ntmps w g w1 g1 bx1 s1 a1 → fin call ⟨rs, cCode P hn fn.ntmps c, hn.ret⟩ s1 = some (v, hp', nx') →
        Leaves P fn a1.tmps (fun
          | .returned u, w' => Left w g v hp' nx' u w'
          | _, _ => False) a1.defers .returning w1 := by
      intro w1 g1 bx1 a1 h1 hf1
      unfold fin at hf1
      split at hf1
      · rename_i hd
        have hdd := h1.dfs
        rw [hd] at hdd
        cases hda : a1.defers with
        | cons d m => rw [hda] at hdd; cases hdd
        | nil =>
          obtain ⟨u, hrun, hl⟩ := fin1_ok h1 hrs hf1
          exact ⟨u, hrun, hl⟩
      · split at hf1
        · cases hf1
        · rename_i hrc
          unfold finD at hf1
          split at hf1
          · rename_i hp2 nx2 hdd
            obtain ⟨env, hps, nxs, dfs, rcs⟩ := s1
            simp only at hrc
            subst hrc
            obtain ⟨tm, df⟩ := a1
            exact defers_ok hdef dfs h1 hdd fun w2 g2 h2 => by
              obtain ⟨u, hrun, hl⟩ := fin1_ok h2 hrs hf1
              exact ⟨u, hrun, hl⟩
          · cases hf1
    cases o with
    | normal => exact code_ok hcall hms hdraw hn lf c (.inl rfl) h0 hcode fun w1 g1 bx1 a1 h1 => hfin w1 g1 bx1 a1 h1 hev
    | ret => exact code_ok hcall hms hdraw hn lf c (.inl rfl) h0 hcode fun w1 g1 bx1 a1 h1 => hfin w1 g1 bx1 a1 h1 hev
    | exit id => cases hev
  · cases hev
end
end Go.Air
