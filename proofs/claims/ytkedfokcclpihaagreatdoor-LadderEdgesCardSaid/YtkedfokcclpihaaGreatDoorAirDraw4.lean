/- AIR: a region that draws: the turns of what is no effect; all orders. -/
import Derived.Test.YtkedfokcclpihaaGreatDoorAirDraws
set_option linter.unusedSectionVars false
set_option linter.unusedSimpArgs false
set_option linter.unusedVariables false
set_option linter.unnecessarySimpa false
namespace Go.Air
variable [GL]

section
variable {call : Caller} {ms : Meths} {aops : List AOper} {anc : Nat → List Nat} {es : List Nat} {S : Nat → St} {mk : Nat → Bool} {sw : Option (Nat × Nat)} {L : Nat → Prop} {k i : Nat} {s : St} {o : AOper}

theorem Re.of {s s' : St} {e : E} (had : ∀ x ∈ o.op.atoms, s'.ad x = s.ad x) (h : Re s o e) : Re s' o e := by
  rcases h with h | h | ⟨u, off, hlp, x, hx, o', hax⟩
  · exact .inl h
  · exact .inr (.inl h)
  · exact .inr (.inr ⟨u, off, hlp, x, hx, o', by rw [had x hx]; exact hax⟩)

theorem J.quiet (r : Rg call ms aops anc es S mk sw) (h : J aops anc es S mk L k s) (ho : aops[i]? = some o) (hm : mk i = false) (hL : ¬ L i) (ha : ∀ a ∈ anc i, L a) (hq : o.op.quiet = true ∨ isBoxOp o.op = true) (hf : o.frz = []) :
    ∃ s', evOne call ms o s = some s' ∧ J aops anc es S mk (fun j => L j ∨ j = i) k s' ∧ ∃ e, s'.env = upd o.dst e s.env ∧ Mem s s' := by
  have he : o.eff = false := by unfold AOper.eff; rw [hf]; rcases hq with hq | hq <;> rw [hq] <;> simp
  have hsh := fun t (ht : t ∈ o.tmps) => h.opd r ho hL ha ht
  have had := ad_of_sh (s := S i) (s' := s) (l := o.op.atoms) fun t ht => hsh t (mem_tmps_atom ht)
  obtain ⟨s', e, h1, h2, h3, h4, h5, h6⟩ := one_calm hq hf had (fun g w hg => isB_sh (hsh g (mem_tmps_grd hg))) (fun hb d hd => h.nol i d ⟨o, ho, hb, hd⟩ hL) (r.step i o ho hm)
  exact ⟨s', h1, h.calm r ho hm hL ha he h2 h3 h4 h5 (h6.of had), e, h4, h2⟩

theorem upd_inj {d : Option Nat} {e e' : E} {ue env : List (Nat × E)} (h : upd d e (ue ++ env) = upd d e' env) : ue = [] ∧ (d.isSome = true → e = e') := by
  cases d with
  | none =>
    have h' : ue ++ env = env := h
    exact ⟨by simpa using h', fun h => by cases h⟩
  | some i =>
    have h' : (i, e) :: (ue ++ env) = (i, e') :: env := h
    injection h' with h1 h2
    injection h1 with _ h3
    exact ⟨by simpa using h2, fun _ => h3⟩

theorem copyT_lget (env m : List (Nat × E)) : ∀ (l : List Nat) (t : Nat), lget (copyT env m l) t = if t ∈ l ∧ entryV (lget env t) ≠ none then lget env t else lget m t
  | [], t => by simp [copyT]
  | x :: q, t => by
    have h : copyT env m (x :: q) = consE x (entryV (lget env x)) (copyT env m q) := rfl
    rw [h]
    unfold consE
    cases hx : entryV (lget env x) with
    | none =>
      dsimp only
      rw [copyT_lget env m q t]
      by_cases htx : t = x
      · subst htx
        simp [hx]
      · simp [htx]
    | some e =>
      dsimp only
      rw [lget_cons]
      by_cases htx : x = t
      · subst htx
        rw [if_pos rfl]
        have : lget env x = some e := by
          cases hl : lget env x with
          | none => rw [hl] at hx; cases hx
          | some y => rw [hl] at hx; cases y <;> simp [entryV] at hx <;> rw [← hx]
        rw [this] at hx
        simp [hx, this]
      · rw [if_neg htx, copyT_lget env m q t]
        have : t ≠ x := fun h => htx h.symm
        simp [this]

theorem entryV_none {q : Option E} (h : entryV q = none) : q = none ∨ ∃ cs, q = some (.box cs) := by
  cases q with
  | none => exact .inl rfl
  | some e => cases e <;> simp [entryV] at h ⊢

theorem J.read (r : Rg call ms aops anc es S mk sw) (h : J aops anc es S mk L k s) (ho : aops[i]? = some o) (hm : mk i = false) (hL : ¬ L i) (ha : ∀ a ∈ anc i, L a) (hr : o.op.reads = true) (hq : o.op.quiet = false) (hbo : isBoxOp o.op = false) (hf : o.frz = []) :
    ∃ s', evOne call ms o s = some s' ∧ J aops anc es S mk (fun j => L j ∨ j = i) k s' := by
  have hlt := (List.getElem?_eq_some_iff.1 ho).1
  have he : o.eff = false := by unfold AOper.eff; rw [hr, hf]; simp
  have hsh := fun t (ht : t ∈ o.tmps) => h.opd r ho hL ha ht
  have had := ad_of_sh (s := S i) (s' := s) (l := o.op.atoms) fun t ht => hsh t (mem_tmps_atom ht)
  have hlo : (es.filter fun e => (anc i).contains e).length ≤ k := filter_le fun q e hqe hc => (h.pre q e hqe).1 (ha e (by simpa using hc))
  have hhi : k ≤ (es.filter fun e => !(anc e).contains i).length := le_filter h.kle fun q e hqe hqk => by
    have hLe := (h.pre q e hqe).2 hqk
    have : i ∉ anc e := fun hc => hL (h.clo e hLe i hc)
    simpa using this
  obtain ⟨m0, e0, henv0, hnb0⟩ := one_noeff he (r.step i o ho hm)
  -- what a run in a state that cannot be told apart gives
  have fin : ∀ (t t1 : St), Same2 o t s → evOne call ms o t = some t1 → (∀ d, o.dst = some d → lget t1.env d = lget (S (i + 1)).env d) → ∃ s', evOne call ms o s = some s' ∧ J aops anc es S mk (fun j => L j ∨ j = i) k s' := by
    intro t t1 hs2 ht1 hd
    obtain ⟨s', h1, h2, ue, e, h3, h4, h5, h6⟩ := one_same hs2 ht1
    obtain ⟨m1, e1, henv1, hnb1⟩ := one_noeff he h1
    obtain ⟨hue, _⟩ := upd_inj (h4.symm.trans henv1)
    subst hue
    have henv1' : s'.env = upd o.dst e s.env := h4
    have hre : Re s o e := h6.of hs2.same.ad
    cases hdst : o.dst with
    | none =>
      refine ⟨s', h1, h.calm r ho hm hL ha he m1 (e := .v (.tup [])) ?_ ?_ (fun _ cs hc => by cases hc) (.inl ⟨_, rfl⟩)⟩
      · rw [henv0, hdst]; rfl
      · rw [henv1, hdst]; rfl
    | some d =>
      have hed := hd d hdst
      rw [h3, hdst, lget_upd_same, henv0, hdst, lget_upd_same] at hed
      cases hed
      exact ⟨s', h1, h.calm r ho hm hL ha he m1 henv0 henv1' hnb0 hre⟩
  by_cases hw : (es.filter fun e => (anc i).contains e).length < (es.filter fun e => !(anc e).contains i).length
  · -- its order is open
    obtain ⟨d, hd, hok⟩ := r.reads i o _ _ ho hm hr hf rfl rfl hw k hlo hhi
    have hok' : sameE (lget (S (i + 1)).env d) (gotE d (evOne call ms o (mixS o (S i) (S (mAt es k))))) = true := hok
    cases ht : evOne call ms o (mixS o (S i) (S (mAt es k))) with
    | none =>
      rw [ht] at hok'
      cases hx : lget (S (i + 1)).env d with
      | none => rw [hx] at hok'; cases hok'
      | some y => rw [hx] at hok'; cases y <;> cases hok'
    | some t1 =>
      rw [ht] at hok'
      have heq : lget t1.env d = lget (S (i + 1)).env d := by
        have hok2 : sameE (lget (S (i + 1)).env d) (lget t1.env d) = true := hok'
        cases hx : lget (S (i + 1)).env d with
        | none => rw [hx] at hok2; cases hok2
        | some y =>
          rw [hx] at hok2
          cases y with
          | v y =>
            cases hz : lget t1.env d with
            | none => rw [hz] at hok2; cases hok2
            | some z =>
              rw [hz] at hok2
              cases z with
              | v z => rw [beqV_eq y z hok2]
              | _ => cases hok2
          | _ => cases hok2
      refine fin _ t1 ?_ ht fun d' hd' => by rw [hd] at hd'; cases hd'; exact heq
      -- the two states cannot be told apart
      have hmem : ∀ t ∈ o.tmps, t ∈ appR (tmpsG o.grd) (tmpsR o.op) := by
        intro t ht
        rw [appR_eq]
        unfold AOper.tmps at ht
        rw [List.mem_append] at ht ⊢
        rcases ht with ht | ht
        · left
          cases hg : o.grd with
          | none => rw [hg] at ht; simp at ht
          | some p => rw [hg] at ht; simpa [tmpsG] using ht
        · right
          have hA : ∀ x : Atom, t ∈ x.tmps → t ∈ tmpsA x := fun x hx => by cases x <;> simpa [Atom.tmps, tmpsA] using hx
          have hO : ∀ x : Option Atom, t ∈ (optA x).flatMap Atom.tmps → t ∈ tmpsO x := fun x hx => by
            cases x with
            | none => simp [optA] at hx
            | some x => exact hA x (by simpa [optA] using hx)
          cases hop : o.op with
          | load sz ag a => rw [hop] at ht; exact hA a (by simpa [AOp.atoms] using ht)
          | lookup b z x y ok =>
            rw [hop] at ht
            simp only [AOp.atoms, List.flatMap_cons, List.flatMap_nil, List.append_nil, List.mem_append] at ht
            simp only [tmpsR, appR_eq, List.mem_append]
            exact ht.imp (hA x) (hA y)
          | len kd x => rw [hop] at ht; exact hA x (by simpa [AOp.atoms] using ht)
          | slsl sz x lo hi mx =>
            rw [hop] at ht
            simp only [AOp.atoms, List.flatMap_cons, List.flatMap_append, List.mem_append] at ht
            simp only [tmpsR, appR_eq, List.mem_append]
            exact ht.imp (hA x) (Or.imp (hO lo) (Or.imp (hO hi) (hO mx)))
          | conv c x => rw [hop] at ht; exact hA x (by simpa [AOp.atoms] using ht)
          | _ => rw [hop] at hr; cases hr
      have hl : ∀ t, lget (mixS o (S i) (S (mAt es k))).env t = if t ∈ appR (tmpsG o.grd) (tmpsR o.op) ∧ entryV (lget (S i).env t) ≠ none then lget (S i).env t else lget (S (mAt es k)).env t :=
        fun t => copyT_lget _ _ _ t
      have hmm : Mem (mixS o (S i) (S (mAt es k))) s := ⟨h.mem.hp, h.mem.nx, h.mem.dfs, h.mem.rc⟩
      -- what is read of an operand
      have hin : ∀ t ∈ appR (tmpsG o.grd) (tmpsR o.op), t ∈ o.tmps := by
        intro t ht
        rw [appR_eq, List.mem_append] at ht
        unfold AOper.tmps
        rw [List.mem_append]
        rcases ht with ht | ht
        · left
          cases hg : o.grd with
          | none => rw [hg] at ht; simp [tmpsG] at ht
          | some p => rw [hg] at ht; simpa [tmpsG] using ht
        · right
          have hA : ∀ x : Atom, t ∈ tmpsA x → t ∈ x.tmps := fun x hx => by cases x <;> simpa [Atom.tmps, tmpsA] using hx
          have hO : ∀ x : Option Atom, t ∈ tmpsO x → t ∈ (optA x).flatMap Atom.tmps := fun x hx => by
            cases x with
            | none => simp [tmpsO] at hx
            | some x => simpa [optA] using hA x hx
          cases hop : o.op with
          | load sz ag a => rw [hop] at ht; simpa [AOp.atoms] using hA a ht
          | lookup b z x y ok =>
            rw [hop] at ht
            simp only [AOp.atoms, List.flatMap_cons, List.flatMap_nil, List.append_nil, List.mem_append]
            simp only [tmpsR, appR_eq, List.mem_append] at ht
            exact ht.imp (hA x) (hA y)
          | len kd x => rw [hop] at ht; simpa [AOp.atoms] using hA x ht
          | slsl sz x lo hi mx =>
            rw [hop] at ht
            simp only [AOp.atoms, List.flatMap_cons, List.flatMap_append, List.mem_append]
            simp only [tmpsR, appR_eq, List.mem_append] at ht
            exact ht.imp (hA x) (Or.imp (hO lo) (Or.imp (hO hi) (hO mx)))
          | conv c x => rw [hop] at ht; simpa [AOp.atoms] using hA x ht
          | _ => rw [hop] at hr; cases hr
      have hshm : ∀ t ∈ o.tmps, sh (lget s.env t) = sh (lget (mixS o (S i) (S (mAt es k))).env t) := by
        intro t ht
        have h1 := hsh t ht
        rw [hl t]
        split
        · exact h1
        · rename_i hc
          have hn : entryV (lget (S i).env t) = none := by
            cases hx : entryV (lget (S i).env t) with
            | none => rfl
            | some y => exact absurd ⟨hmem t ht, by rw [hx]; simp⟩ hc
          rcases entryV_none hn with hn | ⟨cs, hn⟩
          · rw [hn] at h1
            -- nothing there
            have hs0 : lget s.env t = none := by
              cases hx : lget s.env t with
              | none => rfl
              | some y => rw [hx] at h1; cases y <;> cases h1
            rw [hs0]
            by_cases hex : ∃ (j : Nat) (oj : AOper), aops[j]? = some oj ∧ oj.dst = some t
            · obtain ⟨j, oj, hj, hd⟩ := hex
              rcases r.uses i j o oj t ho hj hd ht with hji | ⟨_, _, hnr⟩
              · exfalso
                have hjlt := r.back i j hji
                obtain ⟨ue, e, h2, _⟩ := r.shape hj (h.lm j (ha j hji))
                have h3 := r.ent2 hj hd hjlt (by omega)
                rw [h2, hd, lget_upd_same, hn] at h3
                cases e <;> cases h3
              · rw [hr] at hnr; cases hnr
            · have h4 := fun p (hp : p ≤ aops.length) => r.entN 0 p (Nat.zero_le _) hp (t := t) fun q oq _ _ h5 h6 => hex ⟨q, oq, h5, h6⟩
              rw [h4 _ (r.mAt_le h.kle), ← h4 i (by omega), hn]
          · rw [hn] at h1
            -- a block
            obtain ⟨ds, hds⟩ := sh_isbox h1.symm (cs := cs) rfl
            rw [sh_of_box hds]
            by_cases hex : ∃ j, BoxBy aops t j
            · obtain ⟨j, hb⟩ := hex
              have hb' := hb
              obtain ⟨oj, hj, hboj, hd⟩ := hb'
              have hji : j ∈ anc i := by
                rcases r.uses i j o oj t ho hj hd ht with h2 | ⟨h2, _⟩
                · exact h2
                · rw [hboj] at h2; cases h2
              have hbj := r.rbox i o _ _ ho hm hr hf rfl rfl hw t j hb (r.back i j hji)
              have hmm := r.mAt_mono hlo h.kle
              have h2 := h.box1 t j hb (ha j hji)
              rw [Nat.max_eq_left (by omega), hds] at h2
              rw [sh_of_box h2.symm]
            · have h2 := h.box0 t fun j hj => hex ⟨j, hj⟩
              rw [hds] at h2
              rw [sh_of_box h2.symm]
      refine same2_of hshm hmm (fun u off x hx hax => ?_) fun hb => by rw [hbo] at hb; cases hb
      have hax' : (S i).ad x = some (.lp u off) := by
        have e1 := ad_of_sh (s := mixS o (S i) (S (mAt es k))) (s' := s) (l := o.op.atoms) (fun t ht => hshm t (mem_tmps_atom ht)) x hx
        rw [← had x hx, e1]
        exact hax
      rw [hl u]
      split
      · rename_i hc
        have h1 := hsh u (hin u hc.1)
        cases hx : boxOf (lget s.env u) with
        | some cs =>
          obtain ⟨ds, hds⟩ := sh_isbox h1 hx
          rw [boxOf_some hds] at hc
          exact absurd rfl hc.2
        | none =>
          cases hy : boxOf (lget (S i).env u) with
          | none => rfl
          | some cs =>
            rw [boxOf_some hy] at hc
            exact absurd rfl hc.2
      · by_cases hex : ∃ j, BoxBy aops u j
        · obtain ⟨j, hb⟩ := hex
          obtain ⟨hLj, hji⟩ := h.lpL r ho hL ha hx hax' hb
          have hbj := r.rbox i o _ _ ho hm hr hf rfl rfl hw u j hb hji
          have hmm := r.mAt_mono hlo h.kle
          have h2 := h.box1 u j hb hLj
          rw [Nat.max_eq_left (by omega)] at h2
          exact h2
        · exact h.box0 u fun j hj => hex ⟨j, hj⟩
  · -- its order is closed
    have hkk : k = (es.filter fun e => (anc i).contains e).length := by omega
    obtain ⟨kt, hkt1, hkt2⟩ := r.kAt i
    have h1 : (es.filter fun e => (anc i).contains e).length ≤ kt := filter_le fun q e hqe hc => (hkt2 q e hqe).1 (r.back i e (by simpa using hc))
    have h2 : kt ≤ (es.filter fun e => !(anc e).contains i).length := le_filter hkt1 fun q e hqe hqk => by
      have hlt := (hkt2 q e hqe).2 hqk
      have : i ∉ anc e := fun hc => by have := r.back e i hc; omega
      simpa using this
    have hkt : kt = k := by omega
    subst hkt
    have hmi := r.mAt_le' hkt1 hkt2
    have m2 : Mem (S i) s := (r.mkT (j := i) (by omega) hkt1 hkt2 (Nat.le_refl _) hmi).1.symm.trans h.mem
    exact fin (S i) _ (same2_of hsh m2 (fun u off x hx hax => h.boxes r ho hL ha hkt2 hx hax) fun hb => by rw [hbo] at hb; cases hb) (r.step i o ho hm) fun _ _ => rfl
end
end Go.Air
