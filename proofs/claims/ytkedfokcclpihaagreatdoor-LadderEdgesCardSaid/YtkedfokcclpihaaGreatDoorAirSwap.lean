/- AIR: two stores that go to two objects may change places. -/
import Derived.Test.YtkedfokcclpihaaGreatDoorAirDraw4
set_option linter.unusedSectionVars false
set_option linter.unusedSimpArgs false
set_option linter.unusedVariables false
set_option linter.unnecessarySimpa false
namespace Go.Air
variable [GL]

/-! ### trees -/
theorem mkPath_fuel {α : Type} (x : Option α) : ∀ (n m i : Nat), i < n → i < m → mkPath x n i = mkPath x m i := by
  intro n
  induction n with
  | zero => intro m i h; omega
  | succ n ih =>
    intro m i h1 h2
    cases m with
    | zero => omega
    | succ m =>
      cases i with
      | zero => rw [mkPath_zero, mkPath_zero]
      | succ i =>
        rw [mkPath_succ, mkPath_succ, ih m (i / 2) (by omega) (by omega)]
theorem tset_nil' {α : Type} (x : Option α) (i : Nat) : tset x (.nil : Tr α) i = tset x (.node .nil none .nil) i := by
  cases i with
  | zero => rw [tset_nil, tset_zero, mkPath_zero]
  | succ i => rw [tset_nil, tset_succ, mkPath_succ, tset_nil, mkPath_fuel x (i + 1) (i / 2 + 1) (i / 2) (by omega) (by omega)]
theorem tset_comm_node {α : Type} (x y : Option α) (l r : Tr α) (v : Option α) (ihl : ∀ i j, i ≠ j → tset x (tset y l j) i = tset y (tset x l i) j) (ihr : ∀ i j, i ≠ j → tset x (tset y r j) i = tset y (tset x r i) j) {i j : Nat} (h : i ≠ j) :
    tset x (tset y (.node l v r) j) i = tset y (tset x (.node l v r) i) j := by
  cases i with
  | zero =>
    cases j with
    | zero => exact absurd rfl h
    | succ j =>
      rw [tset_zero, tset_succ, tset_succ]
      by_cases hj : j % 2 = 0
      · rw [if_pos hj, if_pos hj, tset_zero]
      · rw [if_neg hj, if_neg hj, tset_zero]
  | succ i =>
    cases j with
    | zero =>
      rw [tset_zero, tset_succ, tset_succ]
      by_cases hi : i % 2 = 0
      · rw [if_pos hi, if_pos hi, tset_zero]
      · rw [if_neg hi, if_neg hi, tset_zero]
    | succ j =>
      rw [tset_succ x l r v i, tset_succ y l r v j]
      by_cases hi : i % 2 = 0
      · rw [if_pos hi]
        by_cases hj : j % 2 = 0
        · rw [if_pos hj, tset_succ, tset_succ, if_pos hi, if_pos hj, ihl _ _ (by omega)]
        · rw [if_neg hj, tset_succ, tset_succ, if_pos hi, if_neg hj]
      · rw [if_neg hi]
        by_cases hj : j % 2 = 0
        · rw [if_pos hj, tset_succ, tset_succ, if_neg hi, if_pos hj]
        · rw [if_neg hj, tset_succ, tset_succ, if_neg hi, if_neg hj, ihr _ _ (by omega)]
theorem tset_comm_nil {α : Type} (x y : Option α) : ∀ (n i j : Nat), i + j ≤ n → i ≠ j → tset x (tset y (.nil : Tr α) j) i = tset y (tset x .nil i) j := by
  intro n
  induction n with
  | zero => intro i j h1 h2; omega
  | succ n ih =>
    intro i j h1 h2
    rw [tset_nil' y j, tset_nil' x i]
    cases i with
    | zero =>
      cases j with
      | zero => exact absurd rfl h2
      | succ j =>
        rw [tset_zero, tset_succ, tset_succ]
        by_cases hj : j % 2 = 0
        · rw [if_pos hj, if_pos hj, tset_zero]
        · rw [if_neg hj, if_neg hj, tset_zero]
    | succ i =>
      cases j with
      | zero =>
        rw [tset_zero, tset_succ, tset_succ]
        by_cases hi : i % 2 = 0
        · rw [if_pos hi, if_pos hi, tset_zero]
        · rw [if_neg hi, if_neg hi, tset_zero]
      | succ j =>
        rw [tset_succ x .nil .nil none i, tset_succ y .nil .nil none j]
        by_cases hi : i % 2 = 0
        · rw [if_pos hi]
          by_cases hj : j % 2 = 0
          · rw [if_pos hj, tset_succ, tset_succ, if_pos hi, if_pos hj, ih _ _ (by omega) (by omega)]
          · rw [if_neg hj, tset_succ, tset_succ, if_pos hi, if_neg hj]
        · rw [if_neg hi]
          by_cases hj : j % 2 = 0
          · rw [if_pos hj, tset_succ, tset_succ, if_neg hi, if_pos hj]
          · rw [if_neg hj, tset_succ, tset_succ, if_neg hi, if_neg hj, ih _ _ (by omega) (by omega)]
theorem tset_comm {α : Type} (x y : Option α) (t : Tr α) : ∀ i j, i ≠ j → tset x (tset y t j) i = tset y (tset x t i) j := by
  induction t with
  | nil => exact fun i j h => tset_comm_nil x y (i + j) i j (Nat.le_refl _) h
  | node l v r ihl ihr => exact fun i j h => tset_comm_node x y l r v ihl ihr h
theorem hset_comm (h : Heap) {i j : Nat} (x y : Obj) (hij : i ≠ j) : hset (hset h j y) i x = hset (hset h i x) j y := tset_comm _ _ h i j hij

section
variable {call : Caller} {ms : Meths} {s s1 : St}

def plainStore (o : AOper) : Prop := ∃ z x y, o = ⟨none, .store z x y, none, []⟩

/-- A plain store into an object. -/
theorem store_run {o : AOper} (ho : plainStore o) {id : Nat} (ht : tgtS o s = some id) (h : evOne call ms o s = some s1) :
    ∃ ob, s1 = s.heap (hset s.hp id ob) ∧ ∀ s' : St, (∀ x ∈ o.op.atoms, s'.ad x = s.ad x) → hget s'.hp id = hget s.hp id → tgtS o s' = some id ∧ evOne call ms o s' = some (s'.heap (hset s'.hp id ob)) := by
  obtain ⟨z, x, y, rfl⟩ := ho
  have h' : frzS none [] (evStore z x y s) = some s1 := h
  have ht' : (match s.ad x with | some (.v (.ptr i _)) => some i | _ => none) = some id := ht
  rw [frzS_eq] at h'
  unfold evStore at h'
  cases hy : s.v y with
  | none => rw [hy] at h'; cases h'
  | some yv =>
    rw [hy] at h'
    dsimp only at h'
    cases hc : yv.cellsN z with
    | none => rw [hc] at h'; cases h'
    | some cs =>
      rw [hc] at h'
      dsimp only at h'
      cases hx : s.ad x with
      | none => rw [hx] at h'; cases h'
      | some e =>
        rw [hx] at h' ht'
        dsimp only at h'
        cases e with
        | box _ => cases ht'
        | lp _ _ => cases ht'
        | v v =>
          cases v with
          | ptr i off =>
            have : i = id := by simpa using ht'
            subst this
            cases ho : hget s.hp i with
            | none =>
              have h2 : (match (match s.stp i off cs (hget s.hp i) with | some s' => some (E.v (V.tup []), s') | none => none) with | some (e, s) => putO none (frzE [] e s) | none => none) = some s1 := h'
              rw [ho] at h2; cases h2
            | some ob =>
              have h2 : (match (match s.stp i off cs (hget s.hp i) with | some s' => some (E.v (V.tup []), s') | none => none) with | some (e, s) => putO none (frzE [] e s) | none => none) = some s1 := h'
              rw [ho] at h2
              cases ob with
              | map _ => cases h2
              | cells t z' ds =>
                cases hw : wr ds off cs with
                | none =>
                  have h3 : s.stp i off cs (some (.cells t z' ds)) = none := by unfold St.stp; dsimp only; rw [hw]
                  rw [h3] at h2; cases h2
                | some ds' =>
                  have h3 : s.stp i off cs (some (.cells t z' ds)) = some (s.heap (hset s.hp i (.cells t z' ds'))) := by unfold St.stp; dsimp only; rw [hw]
                  rw [h3] at h2
                  refine ⟨.cells t z' ds', by cases h2; rfl, fun s' had hg => ?_⟩
                  have hx' : s'.ad x = some (.v (.ptr i off)) := by rw [had x (by simp [AOp.atoms]), hx]
                  have hy' : s'.v y = some yv := by rw [v_ad s', had y (by simp [AOp.atoms]), ← v_ad s, hy]
                  refine ⟨by show (match s'.ad x with | some (.v (.ptr i _)) => some i | _ => none) = some i; rw [hx'], ?_⟩
                  show frzS none [] (evStore z x y s') = _
                  rw [frzS_eq]
                  unfold evStore
                  rw [hy']
                  dsimp only
                  rw [hc]
                  dsimp only
                  rw [hx']
                  show (match (match s'.stp i off cs (hget s'.hp i) with | some s' => some (E.v (V.tup []), s') | none => none) with | some (e, s) => putO none (frzE [] e s) | none => none) = _
                  rw [hg]
                  have h4 : s'.stp i off cs (some (.cells t z' ds)) = some (s'.heap (hset s'.hp i (.cells t z' ds'))) := by unfold St.stp; dsimp only; rw [hw]
                  rw [h4]
                  rfl
          | _ => cases ht'
end

section
variable {call : Caller} {ms : Meths} {aops : List AOper} {anc : Nat → List Nat} {es : List Nat} {S : Nat → St} {mk : Nat → Bool} {L : Nat → Prop} {s : St}

/-- Two last stores whose order is open. -/
structure Sw (aops : List AOper) (anc : Nat → List Nat) (es : List Nat) (S : Nat → St) (mk : Nat → Bool) (a b q ia ib : Nat) (oa ob : AOper) : Prop where
  ea : es[q]? = some a
  eb : es[q + 1]? = some b
  len : es.length = q + 2
  ha : aops[a]? = some oa
  hb : aops[b]? = some ob
  sa : plainStore oa
  sb : plainStore ob
  ta : tgtS oa (S a) = some ia
  tb : tgtS ob (S b) = some ib
  ne : ia ≠ ib
  reads : ∀ (j : Nat) (o : AOper), aops[j]? = some o → mk j = false → o.op.reads = true → o.frz = [] → j ∈ anc b
  last : ∀ j, a ∉ anc j ∧ b ∉ anc j

/-- Behind the second store, ahead of the first. -/
def JS (call : Caller) (ms : Meths) (aops : List AOper) (anc : Nat → List Nat) (es : List Nat) (S : Nat → St) (mk : Nat → Bool) (a b q ib : Nat) (ob : AOper) (L : Nat → Prop) (s : St) : Prop :=
  ∃ s0 x, J aops anc es S mk (fun j => L j ∧ j ≠ b) q s0 ∧ (L b ∧ ∀ y ∈ anc b, L y) ∧ ¬ L a ∧ s = s0.heap (hset s0.hp ib x) ∧
    ∀ s' : St, (∀ y ∈ ob.op.atoms, s'.ad y = (S b).ad y) → hget s'.hp ib = hget (S b).hp ib → evOne call ms ob s' = some (s'.heap (hset s'.hp ib x))

variable {a b q ia ib : Nat} {oa ob : AOper} {sw : Option (Nat × Nat)}

theorem Sw.lt (r : Rg call ms aops anc es S mk sw) (w : Sw aops anc es S mk a b q ia ib oa ob) : a < b := (r.ess q (q + 1) a b w.ea w.eb).1 (by omega)

theorem Sw.mema (r : Rg call ms aops anc es S mk sw) (w : Sw aops anc es S mk a b q ia ib oa ob) (hma : mk a = false) : hget (S (a + 1)).hp ib = hget (S a).hp ib := by
  obtain ⟨x, h1, _⟩ := store_run w.sa w.ta (r.step a oa w.ha hma)
  rw [h1]
  show hget (hset (S a).hp ia x) ib = _
  rw [hget_hset, if_neg (Ne.symm w.ne)]

theorem J.toJS (r : Rg call ms aops anc es S mk sw) (w : Sw aops anc es S mk a b q ia ib oa ob) (hma : mk a = false) (hmb : mk b = false) (h : J aops anc es S mk L q s) (hLa : ¬ L a) (hLb : ¬ L b) (hanc : ∀ x ∈ anc b, L x) :
    ∃ s', evOne call ms ob s = some s' ∧ JS call ms aops anc es S mk a b q ib ob (fun j => L j ∨ j = b) s' := by
  obtain ⟨x, hx1, hx2⟩ := store_run w.sb w.tb (r.step b ob w.hb hmb)
  have hlt := (List.getElem?_eq_some_iff.1 w.hb).1
  have hlta := (List.getElem?_eq_some_iff.1 w.ha).1
  have had := ad_of_sh (s := S b) (s' := s) (l := ob.op.atoms) fun t ht => h.opd r w.hb hLb hanc (mem_tmps_atom ht)
  have hka : ∀ x e, es[x]? = some e → (e < a ↔ x < q) := fun x e hx => (r.ess x q e a hx w.ea).symm
  have hkb : ∀ x e, es[x]? = some e → (e < b ↔ x < q + 1) := fun x e hx => (r.ess x (q + 1) e b hx w.eb).symm
  have hma1 : mAt es (q + 1) = a + 1 := by simp only [mAt, w.ea, Option.getD_some]
  have h1 : Mem (S (mAt es q)) (S a) := (r.mkT (j := a) (by omega) h.kle hka (Nat.le_refl _) (r.mAt_le' h.kle hka)).1
  have h2 : Mem (S (a + 1)) (S b) := by
    have := (r.mkT (j := b) (k := q + 1) (m := a + 1) (by omega) (by have := w.len; omega) hkb (by omega) (by have := w.lt r; omega)).1
    exact this
  have hg : hget s.hp ib = hget (S b).hp ib := by
    rw [h.mem.hp, ← h1.hp, h2.hp, w.mema r hma]
  obtain ⟨_, h3⟩ := hx2 s had hg
  refine ⟨_, h3, s, x, ?_, ⟨.inr rfl, fun y hy => .inl (hanc y hy)⟩, fun hl => ?_, rfl, fun s' h4 h5 => (hx2 s' h4 h5).2⟩
  · have : (fun j => (L j ∨ j = b) ∧ j ≠ b) = L := by
      funext j
      apply propext
      constructor
      · rintro ⟨h1 | h1, h2⟩
        · exact h1
        · exact absurd h1 h2
      · exact fun hj => ⟨.inl hj, fun he => hLb (he ▸ hj)⟩
    rw [this]
    exact h
  · rcases hl with hl | hl
    · exact hLa hl
    · have := w.lt r; omega

theorem St.heap_env (t : St) (h : Heap) (d : Option Nat) (e : E) {t' : St} (he : t'.env = upd d e t.env) (m : Mem t t') (r : St) (hr : r.env = upd d e (t.heap h).env) (mr : Mem (t.heap h) r) : r = t'.heap h := by
  refine St.eq_of (s := t'.heap h) ⟨mr.hp, ?_, ?_, ?_⟩ ?_
  · rw [mr.nx]; exact m.nx.symm
  · rw [mr.dfs]; exact m.dfs.symm
  · rw [mr.rc]; exact m.rc.symm
  · rw [hr]; exact he.symm

/-- What leaves memory, behind the second store. -/
theorem JS.quiet (r : Rg call ms aops anc es S mk sw) (w : Sw aops anc es S mk a b q ia ib oa ob) (h : JS call ms aops anc es S mk a b q ib ob L s) {i : Nat} {o : AOper} (ho : aops[i]? = some o) (hm : mk i = false) (hL : ¬ L i) (hanc : ∀ x ∈ anc i, L x)
    (hq : o.op.quiet = true ∨ isBoxOp o.op = true) (hf : o.frz = []) : ∃ s', evOne call ms o s = some s' ∧ JS call ms aops anc es S mk a b q ib ob (fun j => L j ∨ j = i) s' := by
  obtain ⟨s0, x, hJ, ⟨hLb, hLc⟩, hLa, rfl, hx⟩ := h
  have hib : i ≠ b := fun h => hL (h ▸ hLb)
  have hnb : b ∉ anc i := (w.last i).2
  have hia : i ≠ a := by
    rintro rfl
    obtain ⟨z, x', y, he⟩ := w.sa
    rw [w.ha] at ho
    cases ho
    rw [he] at hq
    rcases hq with hq | hq <;> cases hq
  obtain ⟨s1, h1, hJ1, e, h3, h4⟩ := hJ.quiet r ho hm (fun hl => hL hl.1) (fun y hy => ⟨hanc y hy, fun he => hnb (he ▸ hy)⟩) hq hf
  have hnl : isBoxOp o.op = true → ∀ d, o.dst = some d → noLp d (s0.heap (hset s0.hp ib x)).env = true := fun hb d hd => hJ.nol i d ⟨o, ho, hb, hd⟩ fun hl => hL hl.1
  obtain ⟨s2, e2, h5, h6, h7, h8, _⟩ := one_calm (s := s0) (s' := s0.heap (hset s0.hp ib x)) hq hf (fun y _ => by cases y <;> rfl) (fun g w hg => rfl) hnl h1
  have hee : s2.env = upd o.dst e (s0.heap (hset s0.hp ib x)).env := by
    rw [h8]
    show upd o.dst e2 s0.env = upd o.dst e s0.env
    rw [← h7, h3]
  have heq := St.heap_env s0 (hset s0.hp ib x) o.dst e h3 h4 s2 hee h6
  refine ⟨s2, h5, s1, x, ?_, ⟨.inl hLb, fun y hy => .inl (hLc y hy)⟩, fun hl => ?_, ?_, hx⟩
  · have : (fun j => (L j ∨ j = i) ∧ j ≠ b) = fun j => (L j ∧ j ≠ b) ∨ j = i := by
      funext j
      apply propext
      constructor
      · rintro ⟨h1 | h1, h2⟩
        · exact .inl ⟨h1, h2⟩
        · exact .inr h1
      · rintro (⟨h1, h2⟩ | rfl)
        · exact ⟨.inl h1, h2⟩
        · exact ⟨.inr rfl, hib⟩
    rw [this]
    exact hJ1
  · rcases hl with hl | hl
    · exact hLa hl
    · exact hia hl.symm
  · rw [heq, h4.hp]

/-- The first store, behind the second. -/
theorem JS.fst (r : Rg call ms aops anc es S mk sw) (w : Sw aops anc es S mk a b q ia ib oa ob) (hma : mk a = false) (hmb : mk b = false) (h : JS call ms aops anc es S mk a b q ib ob L s) (hanc : ∀ x ∈ anc a, L x) :
    ∃ s', evOne call ms oa s = some s' ∧ J aops anc es S mk (fun j => L j ∨ j = a) (q + 2) s' := by
  obtain ⟨s0, x, hJ, ⟨hLb, hLc⟩, hLa, rfl, hx⟩ := h
  have hab := w.lt r
  have ea : oa.eff = true := by obtain ⟨z, x', y, he⟩ := w.sa; rw [he]; rfl
  have eb : ob.eff = true := by obtain ⟨z, x', y, he⟩ := w.sb; rw [he]; rfl
  have hallA : ∀ (y e : Nat), es[y]? = some e → e < a → (L e ∧ e ≠ b) := fun y e hy he => (hJ.pre y e hy).2 ((r.ess y q e a hy w.ea).2 he)
  have hancA : ∀ y ∈ anc a, L y ∧ y ≠ b := fun y hy => ⟨hanc y hy, fun he => (w.last a).2 (he ▸ hy)⟩
  obtain ⟨s0a, h1, hJ1, _, hM1⟩ := hJ.eff r w.ha hma (fun hl => hLa hl.1) hancA ea hallA
  -- the first store, in both states
  have had : ∀ y ∈ oa.op.atoms, s0.ad y = (S a).ad y := ad_of_sh (s := S a) (s' := s0) fun t ht => hJ.opd r w.ha (fun hl => hLa hl.1) hancA (mem_tmps_atom ht)
  obtain ⟨xa, hxa1, hxa2⟩ := store_run w.sa w.ta (r.step a oa w.ha hma)
  have hka : ∀ x e, es[x]? = some e → (e < a ↔ x < q) := fun x e hx => (r.ess x q e a hx w.ea).symm
  have hlta := (List.getElem?_eq_some_iff.1 w.ha).1
  have hmem : Mem (S a) s0 := (r.mkT (j := a) (by omega) hJ.kle hka (Nat.le_refl _) (r.mAt_le' hJ.kle hka)).1.symm.trans hJ.mem
  have e1 := (hxa2 s0 had (by rw [hmem.hp])).2
  have e2 := (hxa2 (s0.heap (hset s0.hp ib x)) (fun y hy => by rw [← had y hy]; cases y <;> rfl) (by
    show hget (hset s0.hp ib x) ia = _
    rw [hget_hset, if_neg w.ne, hmem.hp])).2
  have hs0a : s0a = s0.heap (hset s0.hp ia xa) := by
    have := h1.symm.trans e1
    exact Option.some.inj this
  -- the second store, behind the first
  have hallB : ∀ (y e : Nat), es[y]? = some e → e < b → ((L e ∧ e ≠ b) ∨ e = a) := fun y e hy he => by
    have hyq := (r.ess y (q + 1) e b hy w.eb).2 he
    by_cases hyq' : y = q
    · subst hyq'; rw [w.ea] at hy; cases hy; exact .inr rfl
    · exact .inl ((hJ.pre y e hy).2 (by omega))
  have hclo : ∀ y ∈ anc b, L y ∧ y ≠ b := by
    intro y hy
    have hyb := r.back b y hy
    refine ⟨?_, by omega⟩
    exact hLc y hy
  have hancB : ∀ y ∈ anc b, (L y ∧ y ≠ b) ∨ y = a := fun y hy => .inl (hclo y hy)
  have hnb : ¬ ((L b ∧ b ≠ b) ∨ b = a) := by
    rintro (⟨_, h⟩ | h)
    · exact h rfl
    · omega
  obtain ⟨sab, h2, hJ2, _, hM2⟩ := hJ1.eff r w.hb hmb hnb hancB eb hallB
  have hltb := (List.getElem?_eq_some_iff.1 w.hb).1
  have hkb : ∀ x e, es[x]? = some e → (e < b ↔ x < q + 1) := fun x e hx => (r.ess x (q + 1) e b hx w.eb).symm
  have hma1 : mAt es (q + 1) = a + 1 := by simp only [mAt, w.ea, Option.getD_some]
  have hSb : Mem (S (a + 1)) (S b) := (r.mkT (j := b) (k := q + 1) (m := a + 1) (by omega) (by have := w.len; omega) hkb (by omega) (by omega)).1
  have had2 : ∀ y ∈ ob.op.atoms, s0a.ad y = (S b).ad y := ad_of_sh (s := S b) (s' := s0a) fun t ht => hJ1.opd r w.hb hnb hancB (mem_tmps_atom ht)
  have hg2 : hget s0a.hp ib = hget (S b).hp ib := by
    rw [hs0a]
    show hget (hset s0.hp ia xa) ib = _
    rw [hget_hset, if_neg (Ne.symm w.ne), hmem.hp, hSb.hp, w.mema r hma]
  have hsab : sab = s0a.heap (hset s0a.hp ib x) := Option.some.inj (h2.symm.trans (hx s0a had2 hg2))
  refine ⟨_, e2, ?_⟩
  have hfin : (s0.heap (hset s0.hp ib x)).heap (hset (s0.heap (hset s0.hp ib x)).hp ia xa) = sab := by
    rw [hsab, hs0a]
    show (⟨s0.env, hset (hset s0.hp ib x) ia xa, s0.nx, s0.dfs, s0.rc⟩ : St) = ⟨s0.env, hset (hset s0.hp ia xa) ib x, s0.nx, s0.dfs, s0.rc⟩
    rw [hset_comm s0.hp xa x w.ne]
  rw [hfin]
  have : (fun j => L j ∨ j = a) = fun j => ((L j ∧ j ≠ b) ∨ j = a) ∨ j = b := by
    funext j
    apply propext
    constructor
    · rintro (h | h)
      · by_cases hj : j = b
        · exact .inr hj
        · exact .inl (.inl ⟨h, hj⟩)
      · exact .inl (.inr h)
    · rintro ((⟨h, _⟩ | h) | h)
      · exact .inl h
      · exact .inr h
      · exact .inl (h ▸ hLb)
  rw [this]
  exact hJ2
end
end Go.Air
