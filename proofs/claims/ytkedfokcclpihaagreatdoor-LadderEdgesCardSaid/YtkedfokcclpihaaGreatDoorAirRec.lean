/- AIR: deferred calls that may call 'recover'. -/
import Derived.Test.YtkedfokcclpihaaGreatDoorAirRuns
import Derived.Recover
set_option linter.unusedSectionVars false
set_option linter.unusedSimpArgs false
set_option linter.unusedVariables false
set_option linter.unnecessarySimpa false
namespace Go.Air
variable [GL]

section
variable {P : Program} {nt : Nat} {w0 : World} {g0 : G} {w w1 : World} {g : G} {bx : Nat → Option Nat} {s s' : St} {a : Act} {o : Oper} {call : Caller} {ms : Meths}

theorem cCall_rec {c : Call} {ty : TypeId} (h : cCall P c ty = .recover) : c.callee = .builtin .recover := by
  revert h
  unfold cCall
  split
  · exact fun h => by cases h
  · exact fun h => by cases h
  · rename_i b hb
    rw [hb]
    intro h
    split at h
    all_goals first
      | rfl
      | (exfalso; revert h; (repeat' split); all_goals (intro h; cases h))

theorem cEq_rec {neg : Bool} {op : BinOp} {t : TypeId} {x y : Operand} : cEq P neg op t x y ≠ .recover := by
  unfold cEq
  split
  · exact fun h => by cases h
  · split
    · exact fun h => by cases h
    · exact fun h => by cases h
theorem cOp_rec {heap : List Nat} (h : cOp P heap o = .recover) : ∃ c, o.op = .call c ∧ c.callee = .builtin .recover := by
  revert h
  generalize hop : o.op = op
  cases op <;> simp only [cOp, hop]
  case call c => exact fun h => ⟨c, rfl, cCall_rec h⟩
  case binOp op t x y t' =>
    split
    · exact fun h => absurd h cEq_rec
    · exact fun h => absurd h cEq_rec
    · exact fun h => by cases h
  all_goals first
    | (intro h; cases h; done)
    | ((repeat' split) <;> first | (intro h; cases h; done) | (intro h; simp_all; done))

theorem recover_run {c : Call} (hop : o.op = .call c) (hc : c.callee = .builtin .recover) : (execOp a.eval o).run P w = .ok .recover w := by
  simp only [execOp, hop, resolve, hc, Sem.run_bind, Sem.run_pure, Result.andThen_ok, invoke, builtin]

/-- One operation of a deferred call's frame, where nothing gave up. -/
def OneS (P : Program) (ops : Array Oper) (o : Oper) (a : Act) (w : World) (K : Act → World → Prop) (Q : Exit → Act → World → Prop) : Prop :=
  if Region.wanted o (yielded ops a.tmps) then
    match (execOp a.eval o).run P w with
    | .ok .recover w' => K (a.put o.dst .nilIface) w'
    | r => o.upon P a K Q r
  else K (a.put o.dst undef) w

theorem oneS_of {ops : Array Oper} {K : Act → World → Prop} {Q : Exit → Act → World → Prop} (h : OneOk P ops o a w K Q) : OneS P ops o a w K Q := by
  unfold OneOk at h
  unfold OneS
  split
  · rename_i hw
    rw [if_pos hw] at h
    unfold Oper.wp at h
    split
    · rename_i w' hr
      rw [hr] at h
      exact h.elim
    · exact h
  · rename_i hw
    rw [if_neg hw] at h
    exact h

theorem oneS_ok (hcall : CallOk P call) (hms : MethsOk P ms) (h : Sim true nt w0 g0 w g bx s a) {hn : Hint} {ops : Array Oper} (hs : evOne call ms (cOper P hn nt ops.toList o) s = some s') {K : Act → World → Prop} {Q : Exit → Act → World → Prop}
    (hK : ∀ w1 g1 bx1 a1, Sim true nt w0 g0 w1 g1 bx1 s' a1 → K a1 w1) : OneS P ops o a w K Q := by
  by_cases hr : (cOper P hn nt ops.toList o).op = .recover
  · revert hs hr
    unfold cOper
    split
    · intro _ hr; cases hr
    · rename_i hb
      have hdn : ∀ i, o.dst = some i → i < nt := by
        intro i hi
        unfold dstOk at hb
        rw [hi] at hb
        exact lt_of_blt hb
      have run : ∀ {fs : List (Option Nat × Nat × Bool)}, cOp P hn.heap o = .recover → frzS o.dst fs (evStep call ms (cOp P hn.heap o) s) = some s' →
          (match (execOp a.eval o).run P w with
          | .ok .recover w' => K (a.put o.dst .nilIface) w'
          | r => o.upon P a K Q r) := by
        intro fs hr hs
        obtain ⟨c, hop, hc⟩ := cOp_rec hr
        rw [recover_run hop hc]
        rw [hr] at hs
        have hev : evStep call ms .recover s = evRecover s := rfl
        have hrc : evRecover s = some (.v .nili, s) := by unfold evRecover; rw [h.rcf]; rfl
        rw [hev, hrc] at hs
        obtain ⟨g', bx', h'⟩ := frzS_ok h hdn (v := .nilIface) (by show Rep _ _ _; simp only [Rep]) hs
        exact hK w g' bx' _ h'
      split
      · rename_i hg
        intro hs hr
        unfold OneS
        have hw : Region.wanted o (yielded ops a.tmps) = true := by unfold Region.wanted; rw [hg]
        rw [if_pos hw]
        exact run hr hs
      · rename_i j wt hg
        split
        · rename_i d hj
          intro hs hr
          have hs' : ifW (isB wt (lget s.env d)) (frzS o.dst (frzOf hn o) (evStep call ms (cOp P hn.heap o) s)) (putR o.dst (.v (.tup [])) s) = some s' := hs
          unfold ifW at hs'
          split at hs'
          · rename_i b hbb
            have hy := isB_ok h.env (by rw [← Array.getElem?_toList]; exact hj) hbb
            have hw : Region.wanted o (yielded ops a.tmps) = b := by unfold Region.wanted; rw [hg]; exact hy
            unfold OneS
            rw [hw]
            cases b with
            | true =>
              rw [if_pos rfl]
              exact run hr hs'
            | false =>
              have hs2 : putR o.dst (.v (.tup [])) s = some s' := hs'
              obtain ⟨bx', h'⟩ := putR_ok h hdn (v := undef) (e := .v (.tup [])) (by show Rep _ _ _; simp only [Rep]; exact ⟨#[], rfl, by simp [Reps]⟩) hs2
              rw [if_neg (by simp)]
              exact hK w g bx' _ h'
          · cases hs'
        · intro _ hr; cases hr
  · exact oneS_of (one_ok hcall hms h (.inr hr) hs hK)

theorem opsS_ok (hcall : CallOk P call) (hms : MethsOk P ms) {hn : Hint} {ops : Array Oper} {cs : List Frame} (hcs : recoverD cs = none) {Q : Exit → Act → List Frame → World → Prop} : ∀ (n k : Nat) {w : World} {g : G} {bx : Nat → Option Nat} {s : St} {a : Act},
    n + k = ops.size → Sim true nt w0 g0 w g bx s a → ∀ {s' : St}, evOps call ms ((ops.toList.drop k).map (cOper P hn nt ops.toList)) s = some s' →
    (∀ w1 g1 bx1 a1, Sim true nt w0 g0 w1 g1 bx1 s' a1 → Q .normal a1 cs w1) → wpOpsS P ops Q ((List.range ops.size).drop k) a cs w
  | 0, k, w, g, bx, s, a, hk, h, s', hs, hQ => by
    have h1 : ops.toList.drop k = [] := List.drop_eq_nil_of_le (by simp; omega)
    have h2 : (List.range ops.size).drop k = [] := List.drop_eq_nil_of_le (by simp; omega)
    rw [h1] at hs
    rw [h2]
    have hs' : some s = some s' := hs
    cases hs'
    exact hQ w g bx a h
  | n + 1, k, w, g, bx, s, a, hk, h, s', hs, hQ => by
    have hlt : k < ops.size := by omega
    have h1 : ops.toList.drop k = ops[k] :: ops.toList.drop (k + 1) := by
      rw [List.drop_eq_getElem_cons (by simpa using hlt)]; simp
    have h2 : (List.range ops.size).drop k = k :: (List.range ops.size).drop (k + 1) := by
      rw [List.drop_eq_getElem_cons (by simpa using hlt)]; simp
    rw [h1, List.map_cons] at hs
    rw [h2]
    have hs' : thenS (evOne call ms (cOper P hn nt ops.toList ops[k]) s) (evOps call ms ((ops.toList.drop (k + 1)).map (cOper P hn nt ops.toList))) = some s' := hs
    unfold thenS at hs'
    split at hs'
    · rename_i s1 h3
      have hone := oneS_ok (Q := fun e a' w' => Q e a' cs w') (K := fun a' w' => wpOpsS P ops Q ((List.range ops.size).drop (k + 1)) a' cs w') hcall hms h h3 fun w1 g1 bx1 a1 h4 =>
        opsS_ok hcall hms hcs n (k + 1) (by omega) h4 hs' hQ
      simp only [wpOpsS, Array.getElem?_eq_getElem hlt, hcs]
      unfold OneS at hone
      split
      · rename_i hw; rw [if_pos hw] at hone; exact hone
      · rename_i hw; rw [if_neg hw] at hone; exact hone
    · cases hs'

theorem codeS_ok (hcall : CallOk P call) (hms : MethsOk P ms) (hdraw : DrawOk P call ms) (hn : Hint) (lf : Nat) {cs : List Frame} (hcs : recoverD cs = none) {Q : Exit → Act → List Frame → World → Prop} : ∀ (c : Code) {w : World} {g : G} {bx : Nat → Option Nat} {s : St} {a : Act},
    plainS (cCode P hn nt c) = true → Sim true nt w0 g0 w g bx s a → ∀ {o : Out} {s' : St}, evCode call ms lf (cCode P hn nt c) s = some (o, s') → ∀ {Q : Exit → Act → List Frame → World → Prop},
    (∀ w1 g1 bx1 a1, Sim true nt w0 g0 w1 g1 bx1 s' a1 → Q o.exit' a1 cs w1) → c.wpS P Q a cs w
  | .skip, w, g, bx, s, a, hp, h, o, s', hs, Q, hQ => by
    have hs' : some (Out.normal, s) = some (o, s') := hs
    cases hs'
    exact wpS_of_wp (wp_skip (hQ w g bx a h))
  | .region id ops true, w, g, bx, s, a, hp, h, o, s', hs, Q, hQ =>
    wpS_of_wp (hdraw true nt w0 g0 hn id ops h (by
        show evCode call ms 0 (cRegion P hn nt id ops true) s = some (o, s')
        have hs' : evCode call ms lf (cRegion P hn nt id ops true) s = some (o, s') := hs
        unfold cRegion at hs' ⊢
        rw [if_pos rfl] at hs' ⊢
        dsimp only at hs' ⊢
        split at hs'
        · rename_i hc; rw [if_pos hc]; exact hs'
        · cases hs') hQ)
  | .region id ops false, w, g, bx, s, a, hp, h, o, s', hs, Q, hQ => by
    have hs' : ofOR (evRegion call ms (ops.toList.map (cOper P hn nt ops.toList)) none (hnt hn.keep id) s) = some (o, s') := hs
    unfold ofOR at hs'
    split at hs'
    · rename_i s1 h1
      cases hs'
      have h1' : keepO (hnt hn.keep id) (evOps call ms (ops.toList.map (cOper P hn nt ops.toList)) s) = some s' := h1
      unfold keepO at h1'
      split at h1'
      · rename_i s2 h2
        cases h1'
        refine wpS_region ?_
        have := opsS_ok (ops := ops) (hn := hn) (Q := Q) hcall hms hcs ops.size 0 (by omega) h (s' := s2) (by simpa using h2) fun w1 g1 bx1 a1 h3 => by
          obtain ⟨bx', h4⟩ := keep_ok h3 (hnt hn.keep id)
          exact hQ w1 g1 bx' a1 h4
        simpa using this
      · cases h1'
    · cases hs'
  | .seq x y, w, g, bx, s, a, hp, h, o, s', hs, Q, hQ => by
    have hp' : (plainS (cCode P hn nt x) && plainS (cCode P hn nt y)) = true := hp
    obtain ⟨hpx, hpy⟩ := and_le hp'
    have hs' : seqR (evCode call ms lf (cCode P hn nt x) s) (evCode call ms lf (cCode P hn nt y)) = some (o, s') := hs
    unfold seqR at hs'
    refine wpS_seq ?_
    split at hs'
    · rename_i o1 s1 h1
      split at hs'
      · exact codeS_ok hcall hms hdraw hn lf hcs (Q := Q) x hpx h h1 fun w1 g1 bx1 a1 h2 => codeS_ok hcall hms hdraw hn lf hcs (Q := Q) y hpy h2 hs' hQ
      · rename_i o2 hne
        cases hs'
        refine codeS_ok hcall hms hdraw hn lf hcs (Q := Q) x hpx h h1 fun w1 g1 bx1 a1 h2 => ?_
        have := hQ w1 g1 bx1 a1 h2
        cases o with
        | normal => exact absurd rfl hne
        | exit id => exact this
        | ret => exact this
    · cases hs'
  | .cond c x y, w, g, bx, s, a, hp, h, o, s', hs, Q, hQ => by
    have hp' : (plainS (cCode P hn nt x) && plainS (cCode P hn nt y)) = true := hp
    obtain ⟨hpx, hpy⟩ := and_le hp'
    have hs' : condR (s.v (opd c)) (evCode call ms lf (cCode P hn nt x) s) (evCode call ms lf (cCode P hn nt y) s) = some (o, s') := hs
    unfold condR at hs'
    split at hs'
    · rename_i t ht
      have hr := v_opd h.env ht
      simp only [Rep] at hr
      cases t with
      | true => exact wpS_cond hr (codeS_ok hcall hms hdraw hn lf hcs (Q := Q) x hpx h hs' hQ)
      | false => exact wpS_cond hr (codeS_ok hcall hms hdraw hn lf hcs (Q := Q) y hpy h hs' hQ)
    · cases hs'
  | .ret, w, g, bx, s, a, hp, h, o, s', hs, Q, hQ => by
    have hs' : some (Out.ret, s) = some (o, s') := hs
    cases hs'
    exact wpS_of_wp (wp_ret (hQ w g bx a h))
  | .block i b, w, g, bx, s, a, hp, h, o, s', hs, Q, hQ => wpS_of_wp (code_ok hcall hms hdraw hn lf (.block i b) (.inr hp) h hs fun w1 g1 bx1 a1 h1 => hQ w1 g1 bx1 a1 h1)
  | .loop b, w, g, bx, s, a, hp, h, o, s', hs, Q, hQ => wpS_of_wp (code_ok hcall hms hdraw hn lf (.loop b) (.inr hp) h hs fun w1 g1 bx1 a1 h1 => hQ w1 g1 bx1 a1 h1)
  | .exit i, w, g, bx, s, a, hp, h, o, s', hs, Q, hQ => wpS_of_wp (code_ok hcall hms hdraw hn lf (.exit i) (.inr hp) h hs fun w1 g1 bx1 a1 h1 => hQ w1 g1 bx1 a1 h1)
  | .scope b, w, g, bx, s, a, hp, h, o, s', hs, Q, hQ => wpS_of_wp (code_ok hcall hms hdraw hn lf (.scope b) (.inr hp) h hs fun w1 g1 bx1 a1 h1 => hQ w1 g1 bx1 a1 h1)
  | .rangeFunc _ _ _ _, _, _, _, _, _, _, _, _, _, hs, _, _ => by cases hs
  | .label _, _, _, _, _, _, _, _, _, _, hs, _, _ => by cases hs
  | .goto _, _, _, _, _, _, _, _, _, _, hs, _, _ => by cases hs
  | .refuse _, _, _, _, _, _, _, _, _, _, hs, _, _ => by cases hs

/-- A function that is called as a deferred call. -/
theorem bodyD_ok (hcall : CallOk P call) (hms : MethsOk P ms) (hdraw : DrawOk P call ms) {lf f : Nat} {fn : Func} {hn : Hint} {af : AFunc} (hf : P.funcs[f]? = some fn) (hc : cFunc P hn fn = some af)
    {xs : List V} {hp hp' : Heap} {nx nx' : Nat} {v : V} (hev : evBody call ms lf af xs hp nx true = some (v, hp', nx')) {args : Array Value} (hi : Inv w g hp nx) (hr : Reps g xs args.toList) :
    CallsD P f args .returning w fun e u' w' => u' = .returning ∧ (∃ u, e = .returned u) ∧ ∃ g', Inv w' g' hp' nx' ∧ Step w g w' g' := by
  obtain ⟨c, rs, hb, hrs, rfl⟩ := cFunc_some hc
  obtain ⟨hps, hev⟩ := gd_some hev
  refine callsD_of_wpS hf hb fun c₀ cs hc0 => ?_
  have hcs : recoverD (c₀ :: cs) = none := by simp only [recoverD, hc0]
  have h0 := sim_start (rc := true) (n := fn.ntmps) hi hr
  unfold endR at hev
  split at hev
  · rename_i o s1 hcode
    have hfin : ∀ w1 g1 bx1 a1, Sim true fn.ntmps w g w1 g1 bx1 s1 a1 → fin call ⟨rs, cCode P hn fn.ntmps c, hn.ret⟩ s1 = some (v, hp', nx') →
        a1.defers = [] ∧ ∃ u', c₀ :: cs = { c₀ with mode := u' } :: cs ∧ ∃ u, (results fn a1.tmps).run P w1 = .ok u w1 ∧ u' = .returning ∧ (∃ u1, Ending.returned u = .returned u1) ∧ ∃ g', Inv w1 g' hp' nx' ∧ Step w g w1 g' := by
      intro w1 g1 bx1 a1 h1 hf1
      unfold fin at hf1
      split at hf1
      · rename_i hd
        have hdd := h1.dfs
        rw [hd] at hdd
        cases hda : a1.defers with
        | cons d m => rw [hda] at hdd; cases hdd
        | nil =>
          obtain ⟨u, hrun, g', _, hin, st⟩ := fin1_ok h1 hrs hf1
          exact ⟨rfl, .returning, by rw [← hc0], u, hrun, rfl, ⟨u, rfl⟩, g', hin, st⟩
      · rw [h1.rcf] at hf1
        cases hf1
    cases o with
    | normal => exact codeS_ok hcall hms hdraw hn lf hcs (Q := bodyPostS P fn c₀ cs (fun e u' w' => u' = .returning ∧ (∃ u, e = .returned u) ∧ ∃ g', Inv w' g' hp' nx' ∧ Step w g w' g')) c hps h0 hcode fun w1 g1 bx1 a1 h1 => hfin w1 g1 bx1 a1 h1 hev
    | ret => exact codeS_ok hcall hms hdraw hn lf hcs (Q := bodyPostS P fn c₀ cs (fun e u' w' => u' = .returning ∧ (∃ u, e = .returned u) ∧ ∃ g', Inv w' g' hp' nx' ∧ Step w g w' g')) c hps h0 hcode fun w1 g1 bx1 a1 h1 => hfin w1 g1 bx1 a1 h1 hev
    | exit id => cases hev
  · cases hev

/-- A table of functions that is right. -/
def AProgOk (P : Program) (AP : AProg) : Prop :=
  ∀ f af, AP f = some af → ∃ fn hn, P.funcs[f]? = some fn ∧ (fn.name == "runtime.NumGoroutine") = false ∧ cFunc P hn fn = some af

theorem callFunc_enter {f : Nat} {fn : Func} {hn : Hint} {af : AFunc} (hf : P.funcs[f]? = some fn) (hname : (fn.name == "runtime.NumGoroutine") = false) (hc : cFunc P hn fn = some af) (args : Array Value) :
    (callFunc f args).run P w = .ok (.enter f args) w := by
  obtain ⟨c, rs, hb, _⟩ := cFunc_some hc
  have h2 : fn.body.isNone = false := by rw [hb]; rfl
  simp only [callFunc, Sem.run_bind, run_program, Result.andThen_ok, hf, hname, h2, Bool.false_eq_true, if_false, Sem.run_pure]

theorem evFn_ok {AP : AProg} {prim : Caller} (hAP : AProgOk P AP) (hpc : CallOk P prim) (hpd : DefOk P prim) (hms : MethsOk P ms) (hdraw : ∀ call, CallOk P call → DrawOk P call ms) (lf : Nat) :
    ∀ n, CallOk P (evFn AP ms prim lf n) ∧ DefOk P (evFn AP ms prim lf n)
  | 0 => ⟨fun f xs hp nx v hp' nx' h => (by cases h), fun f xs hp nx v hp' nx' h => (by cases h)⟩
  | n + 1 => by
    obtain ⟨ihc, ihd⟩ := evFn_ok hAP hpc hpd hms hdraw lf n
    refine ⟨fun f xs hp nx v hp' nx' h w g args hi hr => ?_, fun f xs hp nx v hp' nx' h w g args hi hr => ?_⟩
    · have h' : (match AP f with | some fn => evBody (evFn AP ms prim lf n) ms lf fn xs hp nx false | none => prim f xs hp nx false) = some (v, hp', nx') := h
      split at h'
      · rename_i af haf
        obtain ⟨fn, hn, hf, hname, hc⟩ := hAP f af haf
        unfold CallsN
        rw [callFunc_enter hf hname hc]
        refine Calls.mono (body_ok ihc ihd hms (hdraw _ ihc) hf hc h' hi hr) fun e w' he => ?_
        cases e with
        | returned u => exact he
        | panicked c => exact he
        | outgrown => exact he
      · exact hpc f xs hp nx v hp' nx' h' w g args hi hr
    · have h' : (match AP f with | some fn => evBody (evFn AP ms prim lf n) ms lf fn xs hp nx true | none => prim f xs hp nx true) = some (v, hp', nx') := h
      split at h'
      · rename_i af haf
        obtain ⟨fn, hn, hf, hname, hc⟩ := hAP f af haf
        exact ⟨callFunc_enter hf hname hc args, bodyD_ok ihc hms (hdraw _ ihc) hf hc h' hi hr⟩
      · exact hpd f xs hp nx v hp' nx' h' w g args hi hr
end
end Go.Air
