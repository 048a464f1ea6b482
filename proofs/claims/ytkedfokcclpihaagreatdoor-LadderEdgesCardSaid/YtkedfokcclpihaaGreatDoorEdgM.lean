/- AIR: the method table, the runtime's function, and that calls are right. -/
import Derived.Test.YtkedfokcclpihaaGreatDoorEdgP
import Derived.Test.YtkedfokcclpihaaGreatDoorAirGc
import Derived.Lib.Bytealg
import Derived.Test.YtkedfokcclpihaaGreatDoorEdgShelf
set_option linter.unusedSectionVars false
set_option linter.unusedSimpArgs false
set_option linter.unusedVariables false
set_option linter.unnecessarySimpa false
set_option maxRecDepth 100000
namespace Go.Air
open Go.Proofs
noncomputable section

def msE : Meths := fun t name =>
  boolCase (Nat.beq t 281)
    (boolCase (name == "plantwright/blocks.load") (some (294, 0))
      (boolCase (name == "plantwright/blocks.step") (some (295, 0))
        (boolCase (name == "plantwright/blocks.words") (some (296, 0)) none))) none

theorem msE_ok : MethsOk Tryz.prog msE := by
  intro t name f off h w b o
  unfold msE at h
  rw [boolCase_eq] at h
  split at h
  · rename_i ht
    have ht := Nat.eq_of_beq_eq_true ht
    subst ht
    rw [boolCase_eq] at h
    split at h
    · rename_i hn
      have hn : name = "plantwright/blocks.load" := by simpa using hn
      subst hn
      cases h
      exact ⟨by kernel_rfl, by kernel_rfl⟩
    · rw [boolCase_eq] at h
      split at h
      · rename_i hn
        have hn : name = "plantwright/blocks.step" := by simpa using hn
        subst hn
        cases h
        exact ⟨by kernel_rfl, by kernel_rfl⟩
      · rw [boolCase_eq] at h
        split at h
        · rename_i hn
          have hn : name = "plantwright/blocks.words" := by simpa using hn
          subst hn
          cases h
          exact ⟨by kernel_rfl, by kernel_rfl⟩
        · cases h
  · cases h

/-- What is known of the program's globals: the first one holds some number. -/
instance : GL where
  ok L := ∃ m, L false 0 0 = some (.int .i64 m)
  mono L L' h := fun ⟨m, hm⟩ => ⟨m, h _ _ _ _ hm⟩

/-- Where a byte stands first. -/
def idxFrom (l : List UInt8) (m : Nat) : Nat → Option Nat :=
  List.rec (motive := fun _ => Nat → Option Nat) (fun _ => none) (fun b _ ih i => boolCase (Nat.beq b.toNat m) (some i) (ih (i + 1))) l
def idxV (r : Option Nat) : V :=
  match r with
  | some i => .int .i64 (.ofNat i)
  | none => .int .i64 (.negSucc 0)
/-- Does a text begin so? -/
def prefB (t : List UInt8) : List UInt8 → Bool :=
  List.rec (motive := fun _ => List UInt8 → Bool) (fun _ => true) (fun b _ ih l => List.rec (motive := fun _ => Bool) false (fun c r _ => boolCase (Nat.beq b.toNat c.toNat) (ih r) false) l) t
/-- Where a text stands first in another. -/
def subFrom (t l : List UInt8) : Nat → Option Nat :=
  List.rec (motive := fun _ => Nat → Option Nat) (fun i => boolCase (prefB t []) (some i) none) (fun b r ih i => boolCase (prefB t (b :: r)) (some i) (ih (i + 1))) l
def primE : Caller := fun f xs hp nx p =>
  boolCase (Nat.beq f 162) (match p with
    | true => none
    | false => match xs with
      | [.str s, .int .u8 (.ofNat m)] => gd (Nat.ble m 255) (some (idxV (idxFrom s m 0), hp, nx))
      | _ => none)
    (boolCase (Nat.beq f 155) (match p with
      | true => none
      | false => match xs with
        | [.str s, .str t] => gd (Nat.ble (lenR s) 4294967280) (some (idxV (subFrom t s 0), hp, nx))
        | _ => none) none)

theorem prefB_eq : ∀ (t l : List UInt8), prefB t l = t.isPrefixOf l
  | [], l => by cases l <;> rfl
  | b :: t, [] => rfl
  | b :: t, c :: r => by
    show boolCase (Nat.beq b.toNat c.toNat) (prefB t r) false = _
    rw [boolCase_eq, prefB_eq t r, List.isPrefixOf_cons_cons]
    by_cases h : b = c
    · subst h; simp
    · have h1 : ¬ Nat.beq b.toNat c.toNat = true := fun he => h (UInt8.toNat_inj.1 (Nat.eq_of_beq_eq_true he))
      rw [if_neg h1]
      simp [h]

theorem idxFrom_eq (m : Nat) (hm : m ≤ 255) : ∀ (l : List UInt8) (i : Nat), (match idxFrom l m i with | some j => ∃ k : Nat, j = i + k ∧ Lib.indexByte l m.toUInt8 = k | none => Lib.indexByte l m.toUInt8 = -1)
  | [], i => rfl
  | b :: l, i => by
    have h : idxFrom (b :: l) m i = boolCase (Nat.beq b.toNat m) (some i) (idxFrom l m (i + 1)) := rfl
    rw [h, boolCase_eq]
    unfold Lib.indexByte
    by_cases hb : Nat.beq b.toNat m = true
    · rw [if_pos hb]
      have hb' := Nat.eq_of_beq_eq_true hb
      have : (b == m.toUInt8) = true := by
        rw [beq_iff_eq]
        apply UInt8.toNat_inj.1
        rw [hb']
        simp
        omega
      rw [if_pos this]
      exact ⟨0, rfl, rfl⟩
    · rw [if_neg hb]
      have : ¬ (b == m.toUInt8) = true := by
        rw [beq_iff_eq]
        rintro rfl
        apply hb
        have : (m.toUInt8).toNat = m := by simp; omega
        rw [this]
        simp
      rw [if_neg this]
      have ih := idxFrom_eq m hm l (i + 1)
      cases hr : idxFrom l m (i + 1) with
      | none =>
        rw [hr] at ih
        have ih' : Lib.indexByte l m.toUInt8 = -1 := ih
        rw [ih']
        rfl
      | some j =>
        rw [hr] at ih
        obtain ⟨k, h1, h2⟩ := ih
        have hne : ¬ (Lib.indexByte l m.toUInt8 == -1) = true := by
          rw [h2, beq_iff_eq]; omega
        rw [if_neg hne]
        exact ⟨k + 1, by omega, by rw [h2]; rfl⟩

theorem subFrom_eq (t : List UInt8) : ∀ (l : List UInt8) (i : Nat), (match subFrom t l i with | some j => ∃ k : Nat, j = i + k ∧ Lib.index l t = k | none => Lib.index l t = -1)
  | [], i => by
    have h : subFrom t [] i = boolCase (prefB t []) (some i) none := rfl
    rw [h, boolCase_eq, prefB_eq]
    unfold Lib.index
    cases t with
    | nil => exact ⟨0, rfl, rfl⟩
    | cons c r => rfl
  | b :: l, i => by
    have h : subFrom t (b :: l) i = boolCase (prefB t (b :: l)) (some i) (subFrom t l (i + 1)) := rfl
    rw [h, boolCase_eq, prefB_eq]
    unfold Lib.index
    by_cases hb : t.isPrefixOf (b :: l) = true
    · rw [if_pos hb, if_pos hb]
      exact ⟨0, rfl, rfl⟩
    · rw [if_neg hb, if_neg hb]
      have ih := subFrom_eq t l (i + 1)
      cases hr : subFrom t l (i + 1) with
      | none =>
        rw [hr] at ih
        have ih' : Lib.index l t = -1 := ih
        rw [ih']
        rfl
      | some j =>
        rw [hr] at ih
        obtain ⟨k, h1, h2⟩ := ih
        have hne : ¬ (Lib.index l t == -1) = true := by
          rw [h2, beq_iff_eq]; omega
        rw [if_neg hne]
        exact ⟨k + 1, by omega, by rw [h2]; rfl⟩

theorem callFunc_enter' {P : Program} {f : Nat} {fn : Func} (hf : P.funcs[f]? = some fn) (hname : (fn.name == "runtime.NumGoroutine") = false) (hb : fn.body.isNone = false) (args : Array Value) (w : World) :
    (callFunc f args).run P w = .ok (.enter f args) w := by
  simp only [callFunc, Sem.run_bind, run_program, Result.andThen_ok, hf, hname, hb, Bool.false_eq_true, if_false, Sem.run_pure]

theorem primE_ok : CallOk Tryz.prog primE := by
  intro f xs hp nx v hp' nx' h w g args hi hr
  unfold primE at h
  rw [boolCase_eq] at h
  split at h
  · rename_i hf
    have hf := Nat.eq_of_beq_eq_true hf
    subst hf
    dsimp only at h
    split at h
    · rename_i s m
      obtain ⟨hm, h⟩ := gd_some h
      cases h
      simp only [Reps, Rep] at hr
      obtain ⟨y, q, he, rfl, z, q2, he2, rfl, rfl⟩ := hr
      have hargs : args = #[.string ⟨s.toArray⟩, .int .u8 (.ofNat m)] := by
        apply Array.ext'
        rw [he, he2]
      subst hargs
      unfold CallsN
      rw [run_callFunc_extern (fn := Tryz.f162) (e := Extern.BytealgIndexByte.indexByte) Tryz.func162 (by kernel_rfl) (by kernel_rfl) (by kernel_rfl) (by kernel_rfl), Lib.run_indexByteString, Result.andThen_ok]
      refine ⟨g, ?_, hi, Step.refl w g⟩
      have hm' : m ≤ 255 := Nat.le_of_ble_eq_true hm
      have hq := idxFrom_eq m hm' s 0
      have e1 : (Int.ofNat m).toNat.toUInt8 = m.toUInt8 := rfl
      have e2 : (⟨s.toArray⟩ : ByteArray).data.toList = s := rfl
      rw [e1, e2]
      cases hj : idxFrom s m 0 with
      | none =>
        rw [hj] at hq
        have hq' : Lib.indexByte s m.toUInt8 = -1 := hq
        rw [hq']
        show Rep g (.int .i64 (.negSucc 0)) _
        simp only [Rep]
        rfl
      | some j =>
        rw [hj] at hq
        obtain ⟨k, h1, h2⟩ := hq
        rw [h2]
        show Rep g (.int .i64 (.ofNat j)) _
        simp only [Rep]
        have : j = k := by omega
        rw [this]
        rfl
    · cases h
  · rw [boolCase_eq] at h
    split at h
    · rename_i hf
      have hf := Nat.eq_of_beq_eq_true hf
      subst hf
      dsimp only at h
      split at h
      · rename_i s t
        obtain ⟨hm, h⟩ := gd_some h
        cases h
        simp only [Reps, Rep] at hr
        obtain ⟨y, q, he, rfl, z, q2, he2, rfl, rfl⟩ := hr
        have hargs : args = #[.string ⟨s.toArray⟩, .string ⟨t.toArray⟩] := by
          apply Array.ext'
          rw [he, he2]
        subst hargs
        unfold CallsN
        rw [callFunc_enter' (fn := Tryz.f155) Tryz.func155 (by kernel_rfl) (by kernel_rfl)]
        obtain ⟨m, hm0⟩ := hi.glob
        have hcell := hi.lock _ _ _ _ hm0
        have hle := Nat.le_of_ble_eq_true hm
        rw [lenR_eq] at hle
        refine Calls.mono (Tryz.stringslite_Index ⟨s.toArray⟩ ⟨t.toArray⟩ m w (by show s.toArray.size < _; simp; omega) hcell) fun e w' he => ?_
        obtain ⟨rfl, rfl⟩ := he
        refine ⟨g, ?_, hi, Step.refl _ g⟩
        have hq := subFrom_eq t s 0
        have e1 : (⟨s.toArray⟩ : ByteArray).data.toList = s := rfl
        have e2 : (⟨t.toArray⟩ : ByteArray).data.toList = t := rfl
        rw [e1, e2]
        cases hj : subFrom t s 0 with
        | none =>
          rw [hj] at hq
          have hq' : Lib.index s t = -1 := hq
          rw [hq']
          show Rep g (.int .i64 (.negSucc 0)) _
          simp only [Rep]
          rfl
        | some j =>
          rw [hj] at hq
          obtain ⟨k, h1, h2⟩ := hq
          rw [h2]
          show Rep g (.int .i64 (.ofNat j)) _
          simp only [Rep]
          have : j = k := by omega
          rw [this]
          rfl
      · cases h
    · cases h
theorem primE_def : DefOk Tryz.prog primE := by
  intro f xs hp nx v hp' nx' h
  unfold primE at h
  rw [boolCase_eq] at h
  split at h
  · cases h
  · rw [boolCase_eq] at h
    split at h
    · cases h
    · cases h

theorem mixedE : Tryz.prog.follows .mixedOrders = true := by kernel_rfl
def callE : Caller := evFn AP msE primE 3000 400
theorem callE_both : CallOk Tryz.prog callE ∧ DefOk Tryz.prog callE :=
  evFn_ok AP_ok primE_ok primE_def msE_ok (fun _ h => draw_ok mixedE h msE_ok) 3000 400
end
end Go.Air
