/- AIR: regions that draw, proved. -/
import Derived.Test.YtkedfokcclpihaaGreatDoorAirSwap
set_option linter.unusedSectionVars false
set_option linter.unusedSimpArgs false
set_option linter.unusedVariables false
set_option linter.unnecessarySimpa false
namespace Go.Air
variable [GL]

/-! ### what the checks say -/
theorem effs_mem {aops : List AOper} {e : Nat} : e ∈ effsAt aops ↔ ∃ o, aops[e]? = some o ∧ o.eff = true := by
  unfold effsAt
  rw [List.mem_map]
  constructor
  · rintro ⟨⟨o, i⟩, h, rfl⟩
    rw [List.mem_filter] at h
    exact ⟨o, by simpa using List.mem_zipIdx_iff_getElem?.1 h.1, h.2⟩
  · rintro ⟨o, h1, h2⟩
    exact ⟨(o, e), List.mem_filter.2 ⟨List.mem_zipIdx_iff_getElem?.2 (by simpa using h1), h2⟩, rfl⟩

theorem effs_sorted (aops : List AOper) : (effsAt aops).Pairwise (· < ·) := by
  unfold effsAt
  have h1 : (aops.zipIdx.filter fun p => p.1.eff).Sublist aops.zipIdx := List.filter_sublist
  have h2 := h1.map Prod.snd
  refine List.Pairwise.sublist h2 ?_
  rw [List.zipIdx_map_snd]
  exact List.pairwise_lt_range'

theorem sorted_get {es : List Nat} (h : es.Pairwise (· < ·)) {p q e f : Nat} (hp : es[p]? = some e) (hq : es[q]? = some f) : p < q ↔ e < f := by
  obtain ⟨hpl, rfl⟩ := List.getElem?_eq_some_iff.1 hp
  obtain ⟨hql, rfl⟩ := List.getElem?_eq_some_iff.1 hq
  rw [List.pairwise_iff_getElem] at h
  constructor
  · exact fun hpq => h p q hpl hql hpq
  · intro hlt
    rcases Nat.lt_trichotomy p q with h1 | h1 | h1
    · exact h1
    · subst h1; omega
    · have := h q p hql hpl h1; omega

theorem chain_get {an : List (List Nat)} {sw : Option (Nat × Nat)} : ∀ {es : List Nat}, chainOk an sw es = true → ∀ p q e f : Nat, p < q → es[p]? = some e → es[q]? = some f → e ∈ ancOf an f ∨ sw = some (e, f)
  | [], _, p, q, e, f, _, hp, _ => by simp at hp
  | x :: r, h, p, q, e, f, hpq, hp, hq => by
    simp only [chainOk, Bool.and_eq_true, List.all_eq_true] at h
    cases q with
    | zero => omega
    | succ q =>
      have hq' : r[q]? = some f := by simpa using hq
      cases p with
      | zero =>
        simp at hp
        subst hp
        have h1 := h.1 f (List.mem_of_getElem? hq')
        rw [Bool.or_eq_true] at h1
        rcases h1 with h1 | h1
        · exact .inl (by simpa using h1)
        · right
          cases sw with
          | none => cases h1
          | some ab =>
            obtain ⟨a, b⟩ := ab
            simp only [Bool.and_eq_true] at h1
            rw [Nat.eq_of_beq_eq_true h1.1, Nat.eq_of_beq_eq_true h1.2]
      | succ p => exact chain_get h.2 p q e f (by omega) (by simpa using hp) hq'

theorem swap_get {an : List (List Nat)} {aops : List AOper} : ∀ {es : List Nat} {a b : Nat}, swapOf an aops es = some (a, b) →
    ∃ q, es[q]? = some a ∧ es[q + 1]? = some b ∧ es.length = q + 2 ∧ isStore aops a = true ∧ isStore aops b = true ∧ (∀ j ∈ readsOf aops, j ∈ ancOf an b) ∧ ∀ l ∈ an, a ∉ l ∧ b ∉ l
  | [], a, b, h => by simp [swapOf] at h
  | [x], a, b, h => by simp [swapOf] at h
  | [x, y], a, b, h => by
    unfold swapOf at h
    split at h
    · rename_i hc
      simp only [Option.some.injEq, Prod.mk.injEq] at h
      obtain ⟨rfl, rfl⟩ := h
      simp only [Bool.and_eq_true, List.all_eq_true, Bool.not_eq_true', Bool.or_eq_false_iff] at hc
      obtain ⟨_, h1, h2, h3, h4⟩ := hc
      exact ⟨0, rfl, rfl, rfl, h1, h2, fun j hj => by simpa using (h3 j hj).2, fun l hl => by simpa using h4 l hl⟩
    · cases h
  | x :: y :: z :: r, a, b, h => by
    have h' : swapOf an aops (y :: z :: r) = some (a, b) := by
      unfold swapOf at h
      exact h
    obtain ⟨q, h1, h2, h3, h4⟩ := swap_get h'
    exact ⟨q + 1, by simpa using h1, by simpa using h2, by simpa using h3, h4⟩

theorem isStore_get {aops : List AOper} {j : Nat} (h : isStore aops j = true) : ∃ o, aops[j]? = some o ∧ plainStore o := by
  unfold isStore at h
  split at h
  · rename_i z x y ho
    exact ⟨_, ho, z, x, y, rfl⟩
  · cases h

theorem uses_get {an : List (List Nat)} {aops : List AOper} (h : usesOk an aops = true) {i j : Nat} {oi oj : AOper} {d : Nat} (hi : aops[i]? = some oi) (hj : aops[j]? = some oj) (hd : oj.dst = some d) :
    (oi.dst = some d → i = j) ∧ (d ∈ oi.tmps → j ∈ ancOf an i ∨ (isBoxOp oj.op = false ∧ (i = j ∨ i ∈ ancOf an j) ∧ oi.op.reads = false)) := by
  unfold usesOk at h
  rw [List.all_eq_true] at h
  have h1 := h (oi, i) (List.mem_zipIdx_iff_getElem?.2 (by simpa using hi))
  simp only [List.all_eq_true] at h1
  have h2 := h1 (oj, j) (List.mem_zipIdx_iff_getElem?.2 (by simpa using hj))
  simp only [hd, Bool.and_eq_true, Bool.or_eq_true, Bool.not_eq_true'] at h2
  refine ⟨fun ho => ?_, fun ht => ?_⟩
  · rcases h2.1 with h3 | h3
    · exact Nat.eq_of_beq_eq_true h3
    · rw [ho] at h3; simp at h3
  · rcases h2.2 with h3 | h3 | ⟨h3, h4, h5⟩
    · rw [List.contains_eq_mem, decide_eq_false_iff_not] at h3
      exact absurd ht h3
    · exact .inl (by simpa using h3)
    · refine .inr ⟨h3, ?_, h5⟩
      rcases h4 with h4 | h4
      · exact .inl (Nat.eq_of_beq_eq_true h4)
      · exact .inr (by simpa using h4)

theorem back_owns {l : List Oper} (h : backOk l = true) {i : Nat} {o : Oper} (ho : l[i]? = some o) : ∀ k ∈ owns o, k < i := by
  unfold backOk at h
  rw [List.all_eq_true] at h
  have h1 := h (o, i) (List.mem_zipIdx_iff_getElem?.2 (by simpa using ho))
  rw [List.all_eq_true] at h1
  intro k hk
  have := h1 k hk
  exact Nat.le_of_ble_eq_true this

theorem ancs_len : ∀ (l : List Oper) (acc : List (List Nat)), (ancs l acc).length = acc.length + l.length
  | [], acc => by simp [ancs]
  | o :: r, acc => by
    unfold ancs
    dsimp only
    rw [ancs_len r]
    simp
    omega

theorem back_anc {l : List Oper} (h : backOk l = true) : ∀ (n i : Nat), i ≤ n → ∀ k ∈ ancOf (ancs l []) i, k < i := by
  intro n
  induction n using Nat.strongRecOn with
  | _ n ih =>
    intro i hi k hk
    unfold ancOf at hk
    cases hA : (ancs l [])[i]? with
    | none => rw [hA] at hk; simp at hk
    | some A =>
      rw [hA] at hk
      have hlt : i < l.length := by
        have := (List.getElem?_eq_some_iff.1 hA).1
        rw [ancs_len] at this
        simpa using this
      have ho : l[i]? = some l[i] := List.getElem?_eq_getElem hlt
      rcases ancs_mem l [] i _ A ho (by simpa using hA) k (by simpa using hk) with h1 | ⟨j, hj, B, hB, hkB⟩
      · exact back_owns h ho k h1
      · have hji := back_owns h ho j hj
        have := ih j (by omega) j (Nat.le_refl _) k (by unfold ancOf; rw [hB]; exact hkB)
        omega

theorem startOk_get {env : List (Nat × E)} : ∀ {ops : List AOper}, startOk ops env = true → ∀ o ∈ ops, startOne o env = true
  | [], _, o, ho => by simp at ho
  | p :: r, h, o, ho => by
    have h' : andB (startOne p env) (startOk r env) = true := h
    unfold andB at h'
    rw [boolCase_eq] at h'
    split at h'
    · rename_i h1
      rcases List.mem_cons.1 ho with rfl | ho
      · exact h1
      · exact startOk_get h' o ho
    · cases h'

section
variable {call : Caller} {ms : Meths}
theorem okAll_get {o : AOper} {d : Nat} {s : St} {x : Option E} {sn : List St} : ∀ {l : List Nat}, okAll call ms o d s x sn l = true → ∀ i ∈ l, okOne call ms o d s x (nthR i sn) = true
  | [], _, i, hi => by simp at hi
  | p :: r, h, i, hi => by
    have h' : andB (okOne call ms o d s x (nthR p sn)) (okAll call ms o d s x sn r) = true := h
    unfold andB at h'
    rw [boolCase_eq] at h'
    split at h'
    · rename_i h1
      rcases List.mem_cons.1 hi with rfl | hi
      · exact h1
      · exact okAll_get h' i hi
    · cases h'
theorem okReads_get {ops : List AOper} {sn : List St} : ∀ {l : List (Nat × List Nat)}, okReads call ms ops sn l = true → ∀ p ∈ l, okRead call ms ops sn p.1 p.2 = true
  | [], _, p, hp => by simp at hp
  | q :: r, h, p, hp => by
    have h' : andB (okRead call ms ops sn q.1 q.2) (okReads call ms ops sn r) = true := h
    unfold andB at h'
    rw [boolCase_eq] at h'
    split at h'
    · rename_i h1
      rcases List.mem_cons.1 hp with rfl | hp
      · exact h1
      · exact okReads_get h' p hp
    · cases h'

theorem chk_mem {an : List (List Nat)} {aops : List AOper} {j : Nat} {o : AOper} (ho : aops[j]? = some o) (hr : o.op.reads = true) (hf : o.frz = []) (hw : winOf an (effsAt aops) j ≠ []) :
    (j, winOf an (effsAt aops) j) ∈ readChk an aops := by
  unfold readChk
  rw [List.mem_filterMap]
  refine ⟨j, ?_, ?_⟩
  · unfold readsOf
    rw [List.mem_map]
    exact ⟨(o, j), List.mem_filter.2 ⟨List.mem_zipIdx_iff_getElem?.2 (by simpa using ho), by simp [hr, hf]⟩, rfl⟩
  · cases h : winOf an (effsAt aops) j with
    | nil => exact absurd h hw
    | cons x r => rfl

theorem win_mem {an : List (List Nat)} {es : List Nat} {j lo hi : Nat} (hlo : lo = (es.filter fun e => (ancOf an j).contains e).length) (hhi : hi = (es.filter fun e => !(ancOf an e).contains j).length) (hlt : lo < hi) {k : Nat} (h1 : lo ≤ k) (h2 : k ≤ hi) :
    mAt es k ∈ winOf an es j := by
  unfold winOf
  dsimp only
  rw [← hlo, ← hhi, if_pos hlt, List.mem_map]
  refine ⟨k - lo, by rw [List.mem_range]; omega, ?_⟩
  have : lo + (k - lo) = k := by omega
  rw [this]
  cases k <;> rfl
theorem win_head {an : List (List Nat)} {es : List Nat} {j lo hi : Nat} (hlo : lo = (es.filter fun e => (ancOf an j).contains e).length) (hhi : hi = (es.filter fun e => !(ancOf an e).contains j).length) (hlt : lo < hi) :
    ∃ r, winOf an es j = mAt es lo :: r := by
  unfold winOf
  dsimp only
  rw [← hlo, ← hhi, if_pos hlt, List.range_succ_eq_map, List.map_cons]
  refine ⟨_, congrArg (· :: _) ?_⟩
  cases lo <;> rfl

theorem rg_of {an : List (List Nat)} {aops : List AOper} {s : St} {sn : List St} (hchain : chainOk an (swapOf an aops (effsAt aops)) (effsAt aops) = true) (huses : usesOk an aops = true) (hback : ∀ i, ∀ k ∈ ancOf an i, k < i) (hbw : boxWin an aops = true)
    (hstart : startOk aops s.env = true) (htext : evText call ms aops s = some sn) (hreads : readChk an aops = [] ∨ okReads call ms aops sn (readChk an aops) = true) :
    Rg call ms aops (ancOf an) (effsAt aops) (fun j => (sn[j]?).getD default) (fun _ => false) (swapOf an aops (effsAt aops)) ∧ (fun j => (sn[j]?).getD default) 0 = s := by
  obtain ⟨hlen, h0, hstep⟩ := evText_states aops htext
  have hs0 : (sn[0]?).getD default = s := by rw [h0]; rfl
  have hrd : ∀ (j : Nat) (o : AOper), aops[j]? = some o → o.op.reads = true → o.frz = [] → j ∈ readsOf aops := fun j o ho hr hf => by
    unfold readsOf
    rw [List.mem_map]
    exact ⟨(o, j), List.mem_filter.2 ⟨List.mem_zipIdx_iff_getElem?.2 (by simpa using ho), by simp [hr, hf]⟩, rfl⟩
  refine ⟨⟨fun j o ho _ => ?_, fun j o _ h => (by cases h), fun j o d ho hd => ?_, fun e => ?_, fun p q e f hp hq => sorted_get (effs_sorted aops) hp hq, fun p q e f => chain_get hchain p q e f,
    fun i j oi oj d hi hj h1 h2 => (uses_get huses hi hj h2).1 h1, fun i j oi oj d hi hj h1 h2 => (uses_get huses hi hj h1).2 h2, hback, fun i k _ h => (by cases h), fun j o lo hi ho _ hr hf hlo hhi hlt u b hb hbj => ?_, fun j o lo hi ho _ hr hf hlo hhi hlt k h1 h2 => ?_⟩, hs0⟩
  · obtain ⟨x, y, hx, hy, hev⟩ := hstep j o ho
    rw [hx, hy]
    exact hev
  · have h1 := startOk_get hstart o (List.mem_of_getElem? ho)
    unfold startOne at h1
    rw [hd] at h1
    dsimp only at h1
    rw [boolCase_eq] at h1
    rw [hs0]
    refine ⟨fun hb => ?_, fun hb => ?_⟩
    · rw [hb] at h1; exact h1
    · rw [hb] at h1
      have h2 : notBox (lget s.env d) = true := h1
      cases hl : lget s.env d with
      | none => rfl
      | some e => rw [hl] at h2; cases e <;> first | rfl | cases h2
  · rw [effs_mem]
    constructor
    · rintro ⟨o, h1, h2⟩; exact ⟨o, h1, h2, rfl⟩
    · rintro ⟨o, h1, h2, _⟩; exact ⟨o, h1, h2⟩
  · obtain ⟨o', ho', hbo, _⟩ := hb
    obtain ⟨r, hr'⟩ := win_head hlo hhi hlt
    unfold boxWin at hbw
    rw [List.all_eq_true] at hbw
    have h1 := hbw j (hrd j o ho hr hf)
    rw [hr'] at h1
    dsimp only at h1
    rw [List.all_eq_true] at h1
    have h2 := h1 (o', b) (List.mem_zipIdx_iff_getElem?.2 (by simpa using ho'))
    dsimp only at h2
    rw [hbo] at h2
    have h3 : Nat.blt b j = true := by rw [Nat.blt_eq]; exact hbj
    rw [h3] at h2
    have h4 : Nat.blt b (mAt (effsAt aops) lo) = true := by simpa using h2
    rw [Nat.blt_eq] at h4
    exact h4
  · have hmem := win_mem hlo hhi hlt h1 h2
    have hne : winOf an (effsAt aops) j ≠ [] := fun h => by rw [h] at hmem; simp at hmem
    have hc := chk_mem ho hr hf hne
    rcases hreads with h | h
    · rw [h] at hc; simp at hc
    · have hok := okReads_get h _ hc
      unfold okRead at hok
      rw [nthR_eq, ho] at hok
      dsimp only at hok
      cases hd : o.dst with
      | none => rw [hd] at hok; cases hok
      | some d =>
        rw [hd] at hok
        dsimp only at hok
        obtain ⟨x, y, hx, hy, _⟩ := hstep j o ho
        rw [nthR_eq, nthR_eq, hx, hy] at hok
        dsimp only at hok
        have := okAll_get hok _ hmem
        rw [nthR_eq] at this
        refine ⟨d, rfl, ?_⟩
        have hlt' : mAt (effsAt aops) k < sn.length := by
          cases hn : sn[mAt (effsAt aops) k]? with
          | none => rw [hn] at this; cases this
          | some z => exact (List.getElem?_eq_some_iff.1 hn).1
        rw [List.getElem?_eq_getElem hlt'] at this ⊢
        rw [hx, hy]
        exact this

theorem sw_of {an : List (List Nat)} {aops : List AOper} {s : St} {sn : List St} {a b : Nat} (hsw : swapOf an aops (effsAt aops) = some (a, b)) (htext : evText call ms aops s = some sn) (hok : okSwp aops sn (some (a, b)) = true) :
    ∃ q ia ib oa ob, Sw aops (ancOf an) (effsAt aops) (fun j => (sn[j]?).getD default) (fun _ => false) a b q ia ib oa ob := by
  obtain ⟨q, h1, h2, h3, h4, h5, h6, h7⟩ := swap_get hsw
  obtain ⟨oa, hoa, hsa⟩ := isStore_get h4
  obtain ⟨ob, hob, hsb⟩ := isStore_get h5
  obtain ⟨hlen, h0, hstep⟩ := evText_states aops htext
  obtain ⟨xa, ya, hxa, _, _⟩ := hstep a oa hoa
  obtain ⟨xb, yb, hxb, _, _⟩ := hstep b ob hob
  have hok' : apartN (tgtAt aops sn a) (tgtAt aops sn b) = true := hok
  have ta : tgtAt aops sn a = tgtS oa xa := by unfold tgtAt; rw [nthR_eq, nthR_eq, hoa, hxa]
  have tb : tgtAt aops sn b = tgtS ob xb := by unfold tgtAt; rw [nthR_eq, nthR_eq, hob, hxb]
  rw [ta, tb] at hok'
  cases hia : tgtS oa xa with
  | none => rw [hia] at hok'; cases hok'
  | some ia =>
    cases hib : tgtS ob xb with
    | none => rw [hia, hib] at hok'; cases hok'
    | some ib =>
      rw [hia, hib] at hok'
      have hne : notB (Nat.beq ia ib) = true := hok'
      refine ⟨q, ia, ib, oa, ob, h1, h2, h3, hoa, hob, hsa, hsb, by rw [hxa]; exact hia, by rw [hxb]; exact hib, fun he => ?_, fun j o ho _ hr hf => ?_, fun j => ?_⟩
      · subst he
        rw [show Nat.beq ia ia = true by simp] at hne
        cases hne
      · refine h6 j ?_
        unfold readsOf
        rw [List.mem_map]
        exact ⟨(o, j), List.mem_filter.2 ⟨List.mem_zipIdx_iff_getElem?.2 (by simpa using ho), by simp [hr, hf]⟩, rfl⟩
      · unfold ancOf
        cases hj : an[j]? with
        | none => exact ⟨by simp, by simp⟩
        | some l => exact h7 l (List.mem_of_getElem? hj)
end

section
variable {P : Program} {rc : Bool} {nt : Nat} {w0 : World} {g0 : G} {w : World} {g : G} {bx : Nat → Option Nat} {s : St} {a : Act} {call : Caller} {ms : Meths}

theorem Sim.draw (h : Sim rc nt w0 g0 w g bx s a) (n : Nat) : Sim rc nt w0 g0 { w with drawn := n } g bx s a := by
  refine ⟨⟨h.inv.nxe, h.inv.lock, fun id o ho => ?_, h.inv.dom, h.inv.inj, h.inv.unl, h.inv.glob⟩, ⟨fun t e he => ?_, h.env.box, h.env.inj, h.env.hp, h.env.unl⟩, h.size, h.dfs,
    ⟨h.step.os, h.step.tape, h.step.output, h.step.size, h.step.ext, h.step.keep, h.step.hpNew, h.step.lNew⟩, h.own, h.rcf⟩
  · obtain ⟨h1, p, h2, h3⟩ := h.inv.obj id o ho
    refine ⟨h1, p, h2, ?_⟩
    cases o <;> exact h3
  · have := h.env.at_ t e he
    cases e <;> exact this

theorem getD_false {l : Array Bool} {i : Nat} (h : i < l.size) : l.getD i true = l.getD i false := by
  simp [Array.getD_eq_getD_getElem?, h]

theorem count_set {l : Array Bool} {i : Nat} (h : i < l.size) (hf : l.getD i false = false) : (l.setIfInBounds i true).toList.count false + 1 = l.toList.count false := by
  rw [Array.toList_setIfInBounds]
  have hg : l.toList[i]'(by simpa using h) = false := by
    simp [h] at hf
    simpa using hf
  have hpos : 0 < l.toList.count false := by
    rw [List.count_pos_iff]
    rw [← hg]
    exact List.getElem_mem _
  rw [List.count_set (by simpa using h), hg]
  have e1 : (if (false == false) = true then 1 else 0) = 1 := rfl
  have e2 : (if (true == false) = true then 1 else 0) = 0 := rfl
  rw [e1, e2]
  omega

theorem any_ok (hcall : CallOk P call) (hms : MethsOk P ms) {hn : Hint} {ops : Array Oper} {Q : Exit → Act → World → Prop} {S : Nat → St} {aops : List AOper} {sw : Option (Nat × Nat)} (haops : aops = ops.toList.map (cOper P hn nt ops.toList))
    (r : Rg call ms aops (ancOf (ancs ops.toList [])) (effsAt aops) S (fun _ => false) sw) (hsw : ∀ a b, sw = some (a, b) → ∃ q ia ib oa ob, Sw aops (ancOf (ancs ops.toList [])) (effsAt aops) S (fun _ => false) a b q ia ib oa ob)
    (hback : backOk ops.toList = true) (hrec : hasRec aops = false) (hQ : ∀ w1 g1 bx1 a1, Sim rc nt w0 g0 w1 g1 bx1 (S aops.length) a1 → Q .normal a1 w1) :
    ∀ (fuel : Nat) (listed : Array Bool) (w : World) (g : G) (bx : Nat → Option Nat) (s : St) (a : Act), Sim rc nt w0 g0 w g bx s a →
      ((∃ k, J aops (ancOf (ancs ops.toList [])) (effsAt aops) S (fun _ => false) (fun i => listed.getD i false = true) k s) ∨
        ∃ x y q ia ib oa ob, Sw aops (ancOf (ancs ops.toList [])) (effsAt aops) S (fun _ => false) x y q ia ib oa ob ∧ JS call ms aops (ancOf (ancs ops.toList [])) (effsAt aops) S (fun _ => false) x y q ib ob (fun i => listed.getD i false = true) s) →
      listed.size = ops.size → listed.toList.count false ≤ fuel → wpAny P .any ops Q fuel listed a w := by
  have hlen : aops.length = ops.size := by rw [haops]; simp
  -- all are done
  have done : ∀ (listed : Array Bool) (w : World) (g : G) (bx : Nat → Option Nat) (s : St) (a : Act), Sim rc nt w0 g0 w g bx s a →
      ((∃ k, J aops (ancOf (ancs ops.toList [])) (effsAt aops) S (fun _ => false) (fun i => listed.getD i false = true) k s) ∨
        ∃ x y q ia ib oa ob, Sw aops (ancOf (ancs ops.toList [])) (effsAt aops) S (fun _ => false) x y q ia ib oa ob ∧ JS call ms aops (ancOf (ancs ops.toList [])) (effsAt aops) S (fun _ => false) x y q ib ob (fun i => listed.getD i false = true) s) →
      listed.size = ops.size → Region.ready .any ops listed = [] → Q .normal a w := by
    intro listed w g bx s a h hJ hsz hr
    have hall : ∀ i, i < ops.size → listed.getD i false = true := by
      intro i
      induction i using Nat.strongRecOn with
      | _ i ih =>
        intro hi
        refine Decidable.byContradiction fun hc => ?_
        have hf : listed.getD i false = false := by simpa using hc
        have ho : ops[i]? = some ops[i] := Array.getElem?_eq_getElem hi
        have : i ∈ Region.ready .any ops listed := mem_ready.2 ⟨by rw [getD_false (by omega)]; exact hf, _, ho, fun e he hb => by
          have hlt := back_owns hback (i := i) (o := ops[i]) (by rw [Array.getElem?_toList]; exact ho) e.on (by
            unfold owns
            rw [List.mem_map]
            exact ⟨e, List.mem_filter.2 ⟨by simpa using he, hb⟩, rfl⟩)
          exact ih e.on hlt (by omega)⟩
        rw [hr] at this
        cases this
    have hallL : ∀ j o, aops[j]? = some o → listed.getD j false = true := fun j o hj => hall j (by have := (List.getElem?_eq_some_iff.1 hj).1; omega)
    rcases hJ with ⟨k, hJ⟩ | ⟨x, y, q, ia, ib, oa, ob, hw, s0, z, _, _, hLa, _⟩
    · have hk : k = (effsAt aops).length := by
        have := hJ.kle
        refine Decidable.byContradiction fun hne => ?_
        have hq : (effsAt aops)[k]? = some (effsAt aops)[k] := List.getElem?_eq_getElem (by omega)
        obtain ⟨o, ho, _⟩ := (r.esm _).1 (List.mem_of_getElem? hq)
        have := (hJ.pre k _ hq).1 (hallL _ o ho)
        omega
      have hke : ∀ q e, (effsAt aops)[q]? = some e → (e < aops.length ↔ q < k) := fun q e hq => by
        have h1 := r.es_lt hq
        have h2 := (List.getElem?_eq_some_iff.1 hq).1
        constructor
        · intro _; omega
        · intro _; exact h1
      have hmn := r.mAt_le' hJ.kle hke
      have hM := fun m h1 h2 => r.mkT (j := aops.length) (k := k) (m := m) (Nat.le_refl _) hJ.kle hke h1 h2
      have hmem : Mem s (S aops.length) := hJ.mem.symm.trans (hM _ (Nat.le_refl _) hmn).1
      have henv : ∀ t, lget (S aops.length).env t = lget s.env t := fun t => by
        refine sh_box (hJ.ent t fun j o hj _ => hallL j o hj).symm ?_
        by_cases hex : ∃ j, BoxBy aops t j
        · obtain ⟨j, hb⟩ := hex
          have hb' := hb
          obtain ⟨o, ho, _⟩ := hb'
          have hjl := (List.getElem?_eq_some_iff.1 ho).1
          rw [hJ.box1 t j hb (hallL j o ho)]
          exact (hM _ (by omega) (by omega)).2 t fun p hp => by rw [r.box_unique hp hb]; omega
        · rw [hJ.box0 t fun j hj => hex ⟨j, hj⟩]
          exact (hM _ (Nat.le_refl _) hmn).2 t fun p hp => absurd ⟨p, hp⟩ hex
      obtain ⟨bx', h'⟩ := h.sub (env' := (S aops.length).env) fun t e he => by rw [← henv t]; exact he
      have heq : S aops.length = ⟨(S aops.length).env, s.hp, s.nx, s.dfs, s.rc⟩ := St.eq_of ⟨hmem.hp, hmem.nx, hmem.dfs, hmem.rc⟩ rfl
      rw [← heq] at h'
      exact hQ w g bx' a h'
    · exact absurd (hallL x oa hw.ha) hLa
  intro fuel
  induction fuel with
  | zero =>
    intro listed w g bx s a h hJ hsz hc
    have hr : Region.ready .any ops listed = [] := by
      cases hx : Region.ready .any ops listed with
      | nil => rfl
      | cons i q =>
        have hi : i ∈ Region.ready .any ops listed := by rw [hx]; exact List.mem_cons_self ..
        obtain ⟨hf, o, ho, _⟩ := mem_ready.1 hi
        have hlt : i < ops.size := (Array.getElem?_eq_some_iff.1 ho).1
        have := count_set (l := listed) (i := i) (by omega) (by rw [← getD_false (by omega)]; exact hf)
        omega
    exact ⟨hr, done listed w g bx s a h hJ hsz hr⟩
  | succ fuel ih =>
    intro listed w g bx s a h hJ hsz hc
    refine ⟨done listed w g bx s a h hJ hsz, fun i hi => ?_⟩
    obtain ⟨hf, o, ho, hedge⟩ := mem_ready.1 hi
    have hlt : i < ops.size := (Array.getElem?_eq_some_iff.1 ho).1
    have hf' : listed.getD i false = false := by rw [← getD_false (by omega)]; exact hf
    have hai : aops[i]? = some (cOper P hn nt ops.toList o) := by rw [haops]; simp [ho]
    have hL : ¬ (listed.getD i false = true) := by rw [hf']; simp
    have hiff : (fun j => listed.getD j false = true ∨ j = i) = fun j => (listed.setIfInBounds i true).getD j false = true := by
      funext j
      apply propext
      by_cases hji : j = i
      · subst hji
        simp [hsz, hlt]
      · rw [getD_set_ne false (Ne.symm hji)]
        simp [hji]
    have hcl : Closed ops listed := by
      rcases hJ with ⟨k, hJ⟩ | ⟨x, y, q, ia, ib, oa, ob, hw, s0, z, hJ0, hLb, hLa, _⟩
      · exact fun j A hj hA x hx => hJ.clo j hj x (by unfold ancOf; rw [hA]; exact hx)
      · intro j A hj hA x hx
        have hx' : x ∈ ancOf (ancs ops.toList []) j := by unfold ancOf; rw [hA]; exact hx
        by_cases hjy : j = y
        · subst hjy; exact hLb.2 x hx'
        · exact (hJ0.clo j ⟨hj, hjy⟩ x hx').1
    have hanc : ∀ x ∈ ancOf (ancs ops.toList []) i, listed.getD x false = true := by
      intro x hx
      unfold ancOf at hx
      cases hA : (ancs ops.toList [])[i]? with
      | none => rw [hA] at hx; simp at hx
      | some A =>
        rw [hA] at hx
        exact ready_ancs hcl hi hA x (by simpa using hx)
    obtain ⟨s', hev, hJ'⟩ : ∃ s', evOne call ms (cOper P hn nt ops.toList o) s = some s' ∧
        ((∃ k, J aops (ancOf (ancs ops.toList [])) (effsAt aops) S (fun _ => false) (fun j => listed.getD j false = true ∨ j = i) k s') ∨
          ∃ x y q ia ib oa ob, Sw aops (ancOf (ancs ops.toList [])) (effsAt aops) S (fun _ => false) x y q ia ib oa ob ∧ JS call ms aops (ancOf (ancs ops.toList [])) (effsAt aops) S (fun _ => false) x y q ib ob (fun j => listed.getD j false = true ∨ j = i) s') := by
      rcases hJ with ⟨k, hJ⟩ | ⟨x, y, q, ia, ib, oa, ob, hw, hJS⟩
      · cases he : (cOper P hn nt ops.toList o).eff with
        | true =>
          by_cases hall : ∀ (y e : Nat), (effsAt aops)[y]? = some e → e < i → listed.getD e false = true
          · obtain ⟨s', h1, h2, _⟩ := hJ.eff r hai rfl hL hanc he hall
            exact ⟨s', h1, .inl ⟨_, h2⟩⟩
          · -- the second of two stores, ahead of the first
            have hex : ∃ (y e : Nat), (effsAt aops)[y]? = some e ∧ e < i ∧ ¬ listed.getD e false = true := by
              refine Classical.byContradiction fun hno => hall fun y e h1 h2 => Classical.byContradiction fun h3 => hno ⟨y, e, h1, h2, h3⟩
            obtain ⟨y, e, hy, hei, hne⟩ := hex
            obtain ⟨p, hp⟩ := List.getElem?_of_mem ((r.esm i).2 ⟨_, hai, he, rfl⟩)
            rcases r.chain y p e i ((r.ess y p e i hy hp).2 hei) hy hp with h1 | h1
            · exact absurd (hanc e h1) hne
            · obtain ⟨q, ia, ib, oa, ob, hw⟩ := hsw e i h1
              have hk : k = q := by
                have h2 : ¬ q < k := fun hlt => hne ((hJ.pre q e hw.ea).2 hlt)
                refine Decidable.byContradiction fun hkq => ?_
                have hkl : k < (effsAt aops).length := by have := hw.len; omega
                have hkk : (effsAt aops)[k]? = some (effsAt aops)[k] := List.getElem?_eq_getElem hkl
                rcases r.chain k (q + 1) _ i (by omega) hkk hw.eb with h3 | h3
                · have := (hJ.pre k _ hkk).1 (hanc _ h3); omega
                · rw [h1] at h3
                  simp only [Option.some.injEq, Prod.mk.injEq, and_true] at h3
                  have h4 := hkk
                  rw [← h3] at h4
                  have h5 := (r.ess k q e e h4 hw.ea)
                  omega
              subst hk
              have hob : ob = cOper P hn nt ops.toList o := by have := hw.hb; rw [hai] at this; exact (Option.some.inj this).symm
              obtain ⟨s', h3, h4⟩ := hJ.toJS r hw rfl rfl hne hL hanc
              exact ⟨s', by rw [← hob]; exact h3, .inr ⟨e, i, k, ia, ib, oa, ob, hw, h4⟩⟩
        | false =>
          obtain ⟨hq', hfz⟩ := eff_false he
          cases hq : (cOper P hn nt ops.toList o).op.quiet with
          | true =>
            obtain ⟨s', h1, h2, _⟩ := hJ.quiet r hai rfl hL hanc (.inl hq) hfz
            exact ⟨s', h1, .inl ⟨_, h2⟩⟩
          | false =>
            cases hb : isBoxOp (cOper P hn nt ops.toList o).op with
            | true =>
              obtain ⟨s', h1, h2, _⟩ := hJ.quiet r hai rfl hL hanc (.inr hb) hfz
              exact ⟨s', h1, .inl ⟨_, h2⟩⟩
            | false =>
              rw [hq, hb] at hq'
              obtain ⟨s', h1, h2⟩ := hJ.read r hai rfl hL hanc (by simpa using hq') hq hb hfz
              exact ⟨s', h1, .inl ⟨_, h2⟩⟩
      · cases he : (cOper P hn nt ops.toList o).eff with
        | true =>
          -- the first of the two
          have hJS' := hJS
          obtain ⟨s0, z, hJ0, hLb, hLa, _⟩ := hJS'
          obtain ⟨p, hp⟩ := List.getElem?_of_mem ((r.esm i).2 ⟨_, hai, he, rfl⟩)
          have hix : i = x := by
            have hpl := (List.getElem?_eq_some_iff.1 hp).1
            have hlen2 := hw.len
            rcases Nat.lt_trichotomy p q with h1 | h1 | h1
            · exact absurd ((hJ0.pre p i hp).2 h1).1 hL
            · subst h1; have := hw.ea; rw [hp] at this; exact Option.some.inj this
            · have : p = q + 1 := by omega
              subst this
              have := hw.eb
              rw [hp] at this
              exact absurd ((Option.some.inj this) ▸ hLb.1) hL
          subst hix
          have hoa : oa = cOper P hn nt ops.toList o := by have := hw.ha; rw [hai] at this; exact (Option.some.inj this).symm
          obtain ⟨s', h3, h4⟩ := JS.fst r hw rfl rfl hJS hanc
          exact ⟨s', by rw [← hoa]; exact h3, .inl ⟨_, h4⟩⟩
        | false =>
          obtain ⟨hq', hfz⟩ := eff_false he
          have hqb : (cOper P hn nt ops.toList o).op.quiet = true ∨ isBoxOp (cOper P hn nt ops.toList o).op = true := by
            cases hq : (cOper P hn nt ops.toList o).op.quiet with
            | true => exact .inl rfl
            | false =>
              cases hb : isBoxOp (cOper P hn nt ops.toList o).op with
              | true => exact .inr rfl
              | false =>
                rw [hq, hb] at hq'
                have hib := hw.reads i _ hai rfl (by simpa using hq') hfz
                obtain ⟨s0, z, hJ0, hLb, _⟩ := hJS
                exact absurd (hLb.2 i hib) hL
          obtain ⟨s', h1, h2⟩ := JS.quiet r hw hJS hai rfl hL hanc hqb hfz
          exact ⟨s', h1, .inr ⟨x, y, q, ia, ib, oa, ob, hw, h2⟩⟩
    have hrc : rc = false ∨ (cOper P hn nt ops.toList o).op ≠ .recover := by
      refine .inr fun hr => ?_
      have : hasRec aops = true := by
        unfold hasRec
        rw [List.any_eq_true]
        exact ⟨_, List.mem_of_getElem? hai, by rw [hr]⟩
      rw [hrec] at this
      cases this
    have hone := one_ok (Q := Q) (K := wpAny P .any ops Q fuel (listed.setIfInBounds i true)) hcall hms h hrc hev fun w1 g1 bx1 a1 h1 => by
      refine ih _ w1 g1 bx1 s' a1 h1 ?_ (by simpa using hsz) ?_
      · rw [← hiff]
        exact hJ'
      · have := count_set (l := listed) (i := i) (by omega) hf'
        omega
    unfold wpOp
    rw [ho]
    dsimp only
    unfold OneOk at hone
    split
    · rename_i hw; rw [if_pos hw] at hone; exact .inl hone
    · rename_i hw; rw [if_neg hw] at hone; exact hone

theorem draw_ok (hm : P.follows .mixedOrders = true) (hcall : CallOk P call) (hms : MethsOk P ms) : DrawOk P call ms := by
  intro rc nt w0 g0 hn id ops w g bx s a h o s' hs Q hQ
  have hs' : evCode call ms 0 (cRegion P hn nt id ops true) s = some (o, s') := hs
  unfold cRegion at hs'
  rw [if_pos rfl] at hs'
  dsimp only at hs'
  split at hs'
  · rename_i hc
    simp only [Bool.and_eq_true, Bool.not_eq_true'] at hc
    obtain ⟨hchain, huses, hrec, hback, hbw⟩ := hc
    generalize haops : ops.toList.map (cOper P hn nt ops.toList) = aops at *
    have hs2 : ofOR (keepO (hnt hn.keep id) (evDraw call ms aops (chkOf (ancs ops.toList []) aops) s)) = some (o, s') := hs'
    cases hd : evDraw call ms aops (chkOf (ancs ops.toList []) aops) s with
    | none => rw [hd] at hs2; cases hs2
    | some s1 =>
      rw [hd] at hs2
      have hs3 : some (Out.normal, keepEnv s1 (hnt hn.keep id)) = some (o, s') := hs2
      cases hs3
      unfold evDraw at hd
      obtain ⟨hstart, hd⟩ := gd_some hd
      have hbk : ∀ i, ∀ k ∈ ancOf (ancs ops.toList []) i, k < i := fun i => back_anc hback i i (Nat.le_refl _)
      obtain ⟨sn, htext, hreads, hswp, hlast⟩ : ∃ sn, evText call ms aops s = some sn ∧ (readChk (ancs ops.toList []) aops = [] ∨ okReads call ms aops sn (readChk (ancs ops.toList []) aops) = true) ∧
          okSwp aops sn (swapOf (ancs ops.toList []) aops (effsAt aops)) = true ∧ sn[aops.length]? = some s1 := by
        split at hd
        · rename_i hcalm
          obtain ⟨sn, h1, h2⟩ := evOps_text aops hd
          have hc : readChk (ancs ops.toList []) aops = [] ∧ swapOf (ancs ops.toList []) aops (effsAt aops) = none := by
            unfold calmC chkOf at hcalm
            dsimp only at hcalm
            split at hcalm
            · rename_i h3
              split at hcalm
              · rename_i h4; exact ⟨h3, h4⟩
              · cases hcalm
            · cases hcalm
          exact ⟨sn, h1, .inl hc.1, by rw [hc.2]; rfl, h2⟩
        · unfold evSnap at hd
          split at hd
          · rename_i sn hsn
            obtain ⟨hok, hd⟩ := gd_some hd
            cases hd
            unfold andB at hok
            rw [boolCase_eq] at hok
            split at hok
            · rename_i hr
              refine ⟨sn, hsn, .inr hr, hok, ?_⟩
              obtain ⟨hl, _, _⟩ := evText_states aops hsn
              rw [lastS_eq, List.getLast?_eq_getElem?, hl]
              simp [hl]
            · cases hok
          · cases hd
      obtain ⟨r, hs0⟩ := rg_of hchain huses hbk hbw hstart htext hreads
      have hSn : (fun j => (sn[j]?).getD default) aops.length = s1 := by
        show (sn[aops.length]?).getD default = s1
        rw [hlast]; rfl
      have hs0' : (sn[0]?).getD default = s := hs0
      refine wp_region_any hm ?_
      refine any_ok hcall hms haops.symm r (fun x y hxy => sw_of hxy htext (by rw [← hxy]; exact hswp)) hback hrec (fun w1 g1 bx1 a1 h1 => ?_) ops.size _ _ g bx s a (h.draw _) (.inl ⟨0, ?_⟩) (by simp) (by simp)
      · have h1 : Sim rc nt w0 g0 w1 g1 bx1 s1 a1 := by rw [← hSn]; exact h1
        obtain ⟨bx', h2⟩ := keep_ok h1 (hnt hn.keep id)
        exact hQ w1 g1 bx' a1 h2
      · have hno : ∀ i, ¬ ((Array.replicate ops.size false).getD i false = true) := fun i => by
          rw [Array.getD_eq_getD_getElem?, Array.getElem?_replicate]
          split <;> simp
        refine ⟨fun i hi => absurd hi (hno i), fun i hi => absurd hi (hno i), Nat.zero_le _, fun q e _ => ⟨fun hi => absurd hi (hno e), fun hq => absurd hq (Nat.not_lt_zero q)⟩, ?_, fun t _ => ?_, fun t j hb hj => absurd hj (hno j), fun t j hb _ => ?_, fun t ht => ?_,
          fun t j oj hj hd _ => ?_, fun j d hb _ => ?_⟩
        · show Mem ((fun j => (sn[j]?).getD default) 0) s
          rw [hs0]; exact Mem.refl _
        · show boxOf (lget s.env t) = boxOf (lget ((fun j => (sn[j]?).getD default) 0).env t)
          rw [hs0]
        · show boxOf (lget ((fun j => (sn[j]?).getD default) (max 0 (j + 1))).env t) = _
          rw [Nat.max_eq_right (Nat.zero_le _)]
        · rw [r.entN 0 aops.length (Nat.zero_le _) (Nat.le_refl _) fun p oq _ _ h3 h4 => absurd (ht p oq h3 h4) (hno p), hs0']
        · rw [hs0']
        · obtain ⟨oj, hj, hbo, hd⟩ := hb
          have := (r.start j oj d hj hd).1 hbo
          rw [hs0'] at this
          exact this
  · cases hs'
end
end Go.Air
