/- AIR: LadderEdges, walked: whatever the row, it returns true. -/
import Derived.Test.YtkedfokcclpihaaGreatDoorEdgEa
import Derived.Test.YtkedfokcclpihaaGreatDoorEdgEb
import Derived.Test.YtkedfokcclpihaaGreatDoorEdgEc
import Derived.Test.YtkedfokcclpihaaGreatDoorEdgI0
import Derived.Test.YtkedfokcclpihaaGreatDoorEdgI1
import Derived.Test.YtkedfokcclpihaaGreatDoorEdgI2
import Derived.Test.YtkedfokcclpihaaGreatDoorEdgI3
set_option linter.unusedSectionVars false
set_option linter.unusedSimpArgs false
set_option linter.unusedVariables false
set_option linter.unnecessarySimpa false
set_option maxRecDepth 100000
namespace Go.Air
open S Go.Proofs
noncomputable section

def objsOf : Nat → List Obj
  | 0 => objs0 | 1 => objs1 | 2 => objs2 | _ => objs3
def envOf : Nat → List (Nat × E)
  | 0 => env0 | 1 => env1 | 2 => env2 | _ => env3
def idsI : List Nat := [0, 1, 2, 3, 4, 5, 6]
def xs3 (rs : List V) (i : Nat) : List (Nat × V) := [(34, rowV rs), (35, numV (lenR rs)), (36, numV i)]
def outs (xs : List (Nat × V)) : Option (List (Option E)) := some (mapR (fun p => some (.v p.2)) xs)
def keys (xs : List (Nat × V)) : List Nat := mapR (·.1) xs

theorem callE_ok : CallOk Tryz.prog callE := callE_both.1
theorem drawE : DrawOk Tryz.prog callE msE := draw_ok mixedE callE_ok msE_ok

theorem idxAsl_run {s : St} {x i : Atom} {n sz z : Nat} {c : Bool} {es : List V} {e : V} (hn : s.nat i = some n) (hv : s.v x = some (.isl c z es)) (hz : Nat.beq z sz = true) (he : nthR n es = some e) : evIdxAsl sz x i s = some (.v (.iptr e.cells), s) := by
  unfold evIdxAsl
  rw [hn]
  dsimp only
  rw [hv]
  dsimp only
  rw [hz]
  unfold eltAt
  rw [he]
  rfl

section
variable (rs : List V) (i : Nat)
theorem r9 : ∀ k, k < 4 → chkN (evCode callE msE 3000 (takeC 1 cRound) (stX (objsOf k) (envOf k) (xs3 rs i))) idsI (objsOf k) (envOf k) (keys (xs3 rs i ++ [(37, .bool (Nat.blt i (lenR rs)))])) = outs (xs3 rs i ++ [(37, .bool (Nat.blt i (lenR rs)))])
  | 0, _ => by kernel_rfl
  | 1, _ => by kernel_rfl
  | 2, _ => by kernel_rfl
  | 3, _ => by kernel_rfl
  | _ + 4, h => absurd h (by omega)
theorem r9c : ∀ k, k < 4 → ∀ b : Bool, evCode callE msE 3000 (takeC 1 (dropC 1 cRound)) (stX (objsOf k) (envOf k) (xs3 rs i ++ [(37, .bool b)])) = some (if b then Out.normal else .exit 0, stX (objsOf k) (envOf k) (xs3 rs i ++ [(37, .bool b)]))
  | 0, _, true => by kernel_rfl
  | 0, _, false => by kernel_rfl
  | 1, _, true => by kernel_rfl
  | 1, _, false => by kernel_rfl
  | 2, _, true => by kernel_rfl
  | 2, _, false => by kernel_rfl
  | 3, _, true => by kernel_rfl
  | 3, _, false => by kernel_rfl
  | _ + 4, h, _ => absurd h (by omega)

def opsOf : ACode → List AOper
  | .region l _ _ => l
  | _ => []
def sA (k : Nat) : St := (stX (objsOf k) (envOf k) (xs3 rs i ++ [(37, .bool true)])).put (some 38) (.v (numV i))
def oB : AOper := ⟨some 39, .idxAsl 1 (.t 34) (.t 36), none, []⟩
theorem r10a : ∀ k, k < 4 → evCode callE msE 3000 (takeC 1 cBlk) (stX (objsOf k) (envOf k) (xs3 rs i ++ [(37, .bool true)])) = ofOR (keepO T.k3 (thenS (evOne callE msE oB (sA rs i k)) (evOps callE msE (dropR 2 (opsOf (takeC 1 cBlk))))))
  | 0, _ => by kernel_rfl
  | 1, _ => by kernel_rfl
  | 2, _ => by kernel_rfl
  | 3, _ => by kernel_rfl
  | _ + 4, h => absurd h (by omega)
theorem sA_nat : ∀ k, k < 4 → (sA rs i k).nat (.t 36) = gd (Nat.ble i 2147483647) (some i)
  | 0, _ => by kernel_rfl
  | 1, _ => by kernel_rfl
  | 2, _ => by kernel_rfl
  | 3, _ => by kernel_rfl
  | _ + 4, h => absurd h (by omega)
theorem sA_v : ∀ k, k < 4 → (sA rs i k).v (.t 34) = some (.isl false 1 rs)
  | 0, _ => by kernel_rfl
  | 1, _ => by kernel_rfl
  | 2, _ => by kernel_rfl
  | 3, _ => by kernel_rfl
  | _ + 4, h => absurd h (by omega)
def xs5 (b : Bool) : List (Nat × V) := xs3 rs i ++ [(10, numV i), (11, .bool b)]
theorem r10b (b : Bool) : ∀ k, k < 4 → chkN (ofOR (keepO T.k3 (evOps callE msE (dropR 2 (opsOf (takeC 1 cBlk))) ((sA rs i k).put (some 39) (.v (.iptr [.bool b])))))) idsI (objsOf k) (envOf k) (keys (xs5 rs i b)) = outs (xs5 rs i b)
  | 0, _ => by kernel_rfl
  | 1, _ => by kernel_rfl
  | 2, _ => by kernel_rfl
  | 3, _ => by kernel_rfl
  | _ + 4, h => absurd h (by omega)
theorem r10 {b : Bool} (hi : Nat.ble i 2147483647 = true) (hb : nthR i rs = some (.bool b)) (k : Nat) (hk : k < 4) :
    chkN (evCode callE msE 3000 (takeC 1 cBlk) (stX (objsOf k) (envOf k) (xs3 rs i ++ [(37, .bool true)]))) idsI (objsOf k) (envOf k) (keys (xs5 rs i b)) = outs (xs5 rs i b) := by
  rw [r10a rs i k hk]
  have h1 : evOne callE msE oB (sA rs i k) = some ((sA rs i k).put (some 39) (.v (.iptr [.bool b]))) := by
    show frzS (some 39) [] (evIdxAsl 1 (.t 34) (.t 36) (sA rs i k)) = _
    rw [idxAsl_run (n := i) (by rw [sA_nat rs i k hk, hi]; rfl) (sA_v rs i k hk) rfl hb]
    rfl
  rw [h1]
  exact r10b rs i b k hk

theorem r11 (b : Bool) : ∀ k, k < 4 → chkN (evCode callE msE 3000 (takeC 1 (takeC 1 (dropC 1 cBlk))) (stX (objsOf k) (envOf k) (xs5 rs i b))) idsI (objsOf k) (envOf k) (keys (xs5 rs i b ++ [(42, .bool (Nat.beq i 200))])) = outs (xs5 rs i b ++ [(42, .bool (Nat.beq i 200))])
  | 0, _ => by kernel_rfl
  | 1, _ => by kernel_rfl
  | 2, _ => by kernel_rfl
  | 3, _ => by kernel_rfl
  | _ + 4, h => absurd h (by omega)
theorem r11c (b : Bool) : ∀ k, k < 4 → ∀ c : Bool, evCode callE msE 3000 (dropC 1 (takeC 1 (dropC 1 cBlk))) (stX (objsOf k) (envOf k) (xs5 rs i b ++ [(42, .bool c)])) = some (if c then Out.exit 0 else .normal, stX (objsOf k) (envOf k) (xs5 rs i b ++ [(42, .bool c)]))
  | 0, _, true => by kernel_rfl
  | 0, _, false => by kernel_rfl
  | 1, _, true => by kernel_rfl
  | 1, _, false => by kernel_rfl
  | 2, _, true => by kernel_rfl
  | 2, _, false => by kernel_rfl
  | 3, _, true => by kernel_rfl
  | 3, _, false => by kernel_rfl
  | _ + 4, h, _ => absurd h (by omega)
theorem self (xs : List (Nat × V)) : ∀ k, k < 4 → renSt idsI (objsOf k) (envOf k) (stX (objsOf k) (envOf k) xs) = true
  | 0, _ => by kernel_rfl
  | 1, _ => by kernel_rfl
  | 2, _ => by kernel_rfl
  | 3, _ => by kernel_rfl
  | _ + 4, h => absurd h (by omega)
theorem get5 (b : Bool) : ∀ k, k < 4 → ∀ p ∈ xs5 rs i b, lget (stX (objsOf k) (envOf k) (xs5 rs i b ++ [(42, .bool false)])).env p.1 = some (.v p.2) := by
  have key : ∀ k, k < 4 → mapR (lget (stX (objsOf k) (envOf k) (xs5 rs i b ++ [(42, .bool false)])).env) (keys (xs5 rs i b)) = mapR (fun p => some (.v p.2)) (xs5 rs i b)
    | 0, _ => by kernel_rfl
    | 1, _ => by kernel_rfl
    | 2, _ => by kernel_rfl
    | 3, _ => by kernel_rfl
    | _ + 4, h => absurd h (by omega)
  intro k hk p hp
  have h := key k hk
  unfold keys at h
  rw [mapR_eq, mapR_eq, mapR_eq, List.map_map] at h
  exact List.map_inj_left.1 h p hp
theorem rBlk (b : Bool) : ∀ k, k < 4 → ∃ k' ids, k' < 4 ∧ chkN (evCode callE msE 3000 (dropC 2 cBlk) (stX (objsOf k) (envOf k) (xs5 rs i b))) ids (objsOf k') (envOf k') (keys (xs3 rs i)) = outs (xs3 rs i)
  | 0, _ => by cases b; exact ⟨0, _, by omega, edg_0f rs i⟩; exact ⟨1, _, by omega, edg_0t rs i⟩
  | 1, _ => by cases b; exact ⟨3, _, by omega, edg_1f rs i⟩; exact ⟨2, _, by omega, edg_1t rs i⟩
  | 2, _ => by cases b; exact ⟨3, _, by omega, edg_2f rs i⟩; exact ⟨2, _, by omega, edg_2t rs i⟩
  | 3, _ => by cases b; exact ⟨0, _, by omega, edg_3f rs i⟩; exact ⟨1, _, by omega, edg_3t rs i⟩
  | _ + 4, h => absurd h (by omega)
def xsW : List (Nat × V) := [(34, rowV rs), (35, numV (lenR rs)), (36, .int .i64 (wrapF .i64 (.ofNat (i + 1))))]
theorem r26 : ∀ k, k < 4 → chkN (evCode callE msE 3000 (dropC 1 (dropC 2 cRound)) (stX (objsOf k) (envOf k) (xs3 rs i))) idsI (objsOf k) (envOf k) (keys (xsW rs i)) = outs (xsW rs i)
  | 0, _ => by kernel_rfl
  | 1, _ => by kernel_rfl
  | 2, _ => by kernel_rfl
  | 3, _ => by kernel_rfl
  | _ + 4, h => absurd h (by omega)
end

theorem r8 (rs : List V) : chkN (evCode callE msE 3000 (takeC 1 (takeC 1 cEnd)) (stX objsC3 envC3 [(0, rowV rs)])) idsI objs0 env0 (keys (xs3 rs 0)) = outs (xs3 rs 0) := by kernel_rfl

/-- What a run to the end gives. -/
def finC (r : CodeR) : Option V :=
  match r with
  | some (o, s) => match o with
    | .ret => match nilD s.dfs with
      | true => match fin1 T.a3.frz s (evRes s T.a3.results) with
        | some (v, _, _) => some v
        | none => none
      | false => none
    | _ => none
  | none => none
theorem finC_some {r : CodeR} {v : V} (h : finC r = some v) : ∃ s, r = some (.ret, s) ∧ s.dfs = [] ∧ ∃ hp nx, fin1 T.a3.frz s (evRes s T.a3.results) = some (v, hp, nx) := by
  unfold finC at h
  split at h
  · rename_i o s
    split at h
    · split at h
      · rename_i hd
        split at h
        · rename_i v' hp nx hf
          cases h
          refine ⟨s, rfl, ?_, hp, nx, hf⟩
          cases hs : s.dfs with
          | nil => rfl
          | cons _ _ => rw [hs] at hd; cases hd
        · cases h
      · cases h
    · cases h
  · cases h
theorem rEnd : ∀ k, k < 4 → finC (evCode callE msE 3000 (dropC 1 cEnd) (stX (objsOf k) (envOf k) [])) = some (.bool true)
  | 0, _ => by kernel_rfl
  | 1, _ => by kernel_rfl
  | 2, _ => by kernel_rfl
  | 3, _ => by kernel_rfl
  | _ + 4, h => absurd h (by omega)

theorem wrapF_num {i : Nat} (h : i ≤ 201) : V.int .i64 (wrapF .i64 (.ofNat i)) = numV i := by
  unfold numV
  have : wrapF .i64 (.ofNat i) = .ofNat i := by
    unfold wrapF
    have hb : Nat.ble i 9223372036854775807 = true := Nat.ble_eq_true_of_le (by omega)
    dsimp only
    rw [hb]
  rw [this]

theorem blockQ_hit {i : Nat} {R : Out → St → Prop} {s : St} (h : R .normal s) : blockQ i R (.exit i) s := by
  show (if i = i then R .normal s else R (.exit i) s)
  rw [if_pos rfl]
  exact h

def FinR (o : Out) (s' : St) : Prop := (o = .normal ∨ o = .ret) ∧ s'.dfs = [] ∧ ∃ hp' nx', fin1 T.a3.frz s' (evRes s' T.a3.results) = some (.bool true, hp', nx')

theorem edg_walk {w0 : World} {g0 : G} (h0 : g0.nx = 0) (rs : List V) (hrs : ∀ x ∈ rs, ∃ b, x = .bool b) :
    CTo Tryz.prog T.h3 Tryz.f3.ntmps w0 g0 T.a3.body ⟨args0 [rowV rs] 0, .nil, 0, [], false⟩ FinR := by
  have hfree : FreeV (rowV rs) := freeV_bools fun x hx => by
    obtain ⟨b, rfl⟩ := hrs x hx
    exact freeV_bool b
  have f0 : ∀ p ∈ [(0, rowV rs)], FreeV p.2 := fun p hp => by
    simp at hp; subst hp; exact hfree
  have f3 : ∀ i, ∀ p ∈ xs3 rs i, FreeV p.2 := fun i p hp => by
    simp [xs3] at hp
    rcases hp with rfl | rfl | rfl
    · exact hfree
    · exact freeV_int _ _
    · exact freeV_int _ _
  have f37 : ∀ i b, ∀ p ∈ xs3 rs i ++ [(37, V.bool b)], FreeV p.2 := fun i b p hp => by
    rcases List.mem_append.1 hp with hp | hp
    · exact f3 i p hp
    · simp at hp; subst hp; exact freeV_bool _
  have f5 : ∀ i b, ∀ p ∈ xs5 rs i b, FreeV p.2 := fun i b p hp => by
    rcases List.mem_append.1 hp with hp | hp
    · exact f3 i p hp
    · simp at hp
      rcases hp with rfl | rfl
      · exact freeV_int _ _
      · exact freeV_bool _
  have f42 : ∀ i b c, ∀ p ∈ xs5 rs i b ++ [(42, V.bool c)], FreeV p.2 := fun i b c p hp => by
    rcases List.mem_append.1 hp with hp | hp
    · exact f5 i b p hp
    · simp at hp; subst hp; exact freeV_bool _
  refine CTo.cutN callE_ok msE_ok drawE 3000 1 h0 (xs := [(0, rowV rs)]) (by kernel_rfl) (edg_a rs) f0 ?_
  refine CTo.cutN callE_ok msE_ok drawE 3000 0 h0 (xs := [(0, rowV rs)]) (by kernel_rfl) (edg_b rs) f0 ?_
  refine CTo.cutN callE_ok msE_ok drawE 3000 0 h0 (xs := [(0, rowV rs)]) (by kernel_rfl) (edg_c rs) f0 ?_
  refine CTo.cutN callE_ok msE_ok drawE 3000 2 h0 (xs := [(0, rowV rs)]) (by kernel_rfl) (edg_d rs) f0 ?_
  show CTo _ _ _ _ _ (.seq (takeC 1 cEnd) (dropC 1 cEnd)) _ _
  refine CTo.seq ?_
  show CTo _ _ _ _ _ (.seq (takeC 1 (takeC 1 cEnd)) (.block 0 (.loop cRound))) _ _
  refine CTo.seq (CTo.evN callE_ok msE_ok drawE 3000 (xs := xs3 rs 0) (r8 rs) fun s1 hs1 => ?_)
  show CTo _ _ _ _ _ _ _ _
  refine CTo.block ?_
  -- what the loop is left with
  let RL : Out → St → Prop := blockQ 0 (thenR (fun _ s' => CTo Tryz.prog T.h3 Tryz.f3.ntmps w0 g0 (dropC 1 cEnd) s' FinR) FinR)
  have hexit : ∀ (xs : List (Nat × V)) k, k < 4 → RL (.exit 0) (stX (objsOf k) (envOf k) xs) := by
    intro xs k hk
    refine blockQ_hit ?_
    show CTo Tryz.prog T.h3 Tryz.f3.ntmps w0 g0 (dropC 1 cEnd) _ FinR
    refine CTo.ren h0 (objs := objsOf k) (env := envOf k) (xs := []) ⟨idsI, self xs k hk, fun p hp => by cases hp⟩ (fun p hp => by cases hp) ?_
    obtain ⟨s, hs, hd, hf⟩ := finC_some (rEnd k hk)
    exact CTo.ev callE_ok msE_ok drawE 3000 hs ⟨.inr rfl, hd, hf⟩
  refine CTo.loop (fun n s => ∃ i k, k < 4 ∧ i ≤ lenR rs ∧ i ≤ 200 ∧ n = lenR rs + 1 - i ∧ RenTo (objsOf k) (envOf k) (xs3 rs i) s) (n := lenR rs + 1) ⟨0, 0, by omega, Nat.zero_le _, by omega, rfl, hs1⟩ ?_
  rintro n s ⟨i, k, hk, hil, hi2, rfl, hren⟩
  refine ⟨lenR rs - i, by omega, ?_⟩
  refine CTo.ren h0 hren (f3 i) ?_
  refine CTo.cutN callE_ok msE_ok drawE 3000 0 h0 (xs := xs3 rs i ++ [(37, .bool (Nat.blt i (lenR rs)))]) (by kernel_rfl) (r9 rs i k hk) (f37 i _) ?_
  show CTo _ _ _ _ _ (.seq (takeC 1 (dropC 1 cRound)) (dropC 2 cRound)) _ _
  refine CTo.seq ?_
  cases hb : Nat.blt i (lenR rs) with
  | false =>
    exact CTo.ev callE_ok msE_ok drawE 3000 (r9c rs i k hk false) (hexit _ k hk)
  | true =>
    refine CTo.ev callE_ok msE_ok drawE 3000 (r9c rs i k hk true) ?_
    have hlt : i < lenR rs := by rw [Nat.blt_eq] at hb; exact hb
    rw [lenR_eq] at hlt
    obtain ⟨b, hrb⟩ := hrs rs[i] (List.getElem_mem hlt)
    have hnth : nthR i rs = some (.bool b) := by rw [nthR_eq, List.getElem?_eq_getElem hlt, hrb]
    have hble : Nat.ble i 2147483647 = true := Nat.ble_eq_true_of_le (by omega)
    show CTo _ _ _ _ _ (.seq (.block 1 cBlk) (dropC 1 (dropC 2 cRound))) _ _
    refine CTo.seq (CTo.block ?_)
    refine CTo.cutN callE_ok msE_ok drawE 3000 0 h0 (xs := xs5 rs i b) (by kernel_rfl) (r10 rs i hble hnth k hk) (f5 i b) ?_
    show CTo _ _ _ _ _ (.seq (takeC 1 (dropC 1 cBlk)) (dropC 2 cBlk)) _ _
    refine CTo.seq ?_
    show CTo _ _ _ _ _ (.seq (takeC 1 (takeC 1 (dropC 1 cBlk))) (dropC 1 (takeC 1 (dropC 1 cBlk)))) _ _
    refine CTo.seq (CTo.evN callE_ok msE_ok drawE 3000 (xs := xs5 rs i b ++ [(42, .bool (Nat.beq i 200))]) (r11 rs i b k hk) fun s2 hs2 => ?_)
    refine CTo.ren h0 hs2 (f42 i b _) ?_
    cases hc : Nat.beq i 200 with
    | true => exact CTo.ev callE_ok msE_ok drawE 3000 (r11c rs i b k hk true) (hexit _ k hk)
    | false =>
      have hi3 : i < 200 := by
        have : i ≠ 200 := Nat.ne_of_beq_eq_false hc
        omega
      refine CTo.ev callE_ok msE_ok drawE 3000 (r11c rs i b k hk false) ?_
      show CTo _ _ _ _ _ (dropC 2 cBlk) _ _
      refine CTo.ren h0 (objs := objsOf k) (env := envOf k) (xs := xs5 rs i b) ⟨idsI, self _ k hk, ?_⟩ (f5 i b) ?_
      · exact get5 rs i b k hk
      obtain ⟨k', ids, hk', hch⟩ := rBlk rs i b k hk
      refine CTo.evN callE_ok msE_ok drawE 3000 (xs := xs3 rs i) hch fun s3 hs3 => ?_
      show CTo _ _ _ _ _ (dropC 1 (dropC 2 cRound)) _ _
      refine CTo.ren h0 hs3 (f3 i) ?_
      refine CTo.evN callE_ok msE_ok drawE 3000 (xs := xsW rs i) (r26 rs i k' hk') fun s4 hs4 => ?_
      refine ⟨i + 1, k', hk', by rw [lenR_eq]; omega, by omega, by omega, ?_⟩
      have : xsW rs i = xs3 rs (i + 1) := by
        unfold xsW xs3
        rw [wrapF_num (by omega)]
      rw [← this]
      exact hs4
end
end Go.Air
