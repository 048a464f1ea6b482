/- AIR: what the abstract machine's state says of the model's world. -/
import Derived.Test.YtkedfokcclpihaaGreatDoorAirLists
import Derived.Below
import Derived.Calls
set_option linter.unusedSectionVars false
set_option linter.unusedSimpArgs false
set_option linter.unusedVariables false
set_option linter.unnecessarySimpa false
namespace Go.Air

/-- Where a mutable object lies: its block, where it begins in it, the block's cells, the cells of an element. -/
structure Pl where
  blk : Nat
  base : Nat
  size : Nat
  esz : Nat

/-- The ghost: cells that stay as they are; where each object lies; the next number. -/
structure G where
  L : Bool → Nat → Nat → Option Value
  hp : Nat → Option Pl
  nx : Nat

/-- The value of one cell. -/
def cellV : Value → Prop
  | .agg _ | .tuple _ => False
  | _ => True

def Locked (g : G) (c : Bool) (b o : Nat) (ys : List Value) : Prop := ∀ j y, ys[j]? = some y → g.L c b (o + j) = some y

mutual
def Rep (g : G) : V → Value → Prop
  | .undef, v => cellV v
  | .bool b, v => v = .bool b
  | .int k n, v => v = .int k n
  | .str s, v => v = .string ⟨s.toArray⟩
  | .nilp, v => v = .pointer none
  | .ptr id off, v => id < g.nx ∧ ∃ b k, v = .pointer (some ⟨b, k + off, none⟩) ∧ ∀ p, g.hp id = some p → p.blk = b ∧ p.base = k
  | .iptr cs, v => ∃ c b o ys, v = .pointer (some ⟨b, o, none⟩) ∧ Reps g cs ys ∧ (∀ y ∈ ys, cellV y) ∧ Locked g c b o ys
  | .nsl, v => v = .slice none 0 0
  | .isl c sz es, v => ∃ a cap b o, v = .slice a es.length cap ∧ es.length ≤ cap ∧ (es ≠ [] → a = some ⟨b, o, none⟩) ∧ RepEls g c sz b o es
  | .msl id off n, v => id < g.nx ∧ ∃ a cap, v = .slice (some a) n cap ∧ n ≤ cap ∧
      (0 < cap → ∃ b k, a = ⟨b, k + off, none⟩ ∧ ∀ p, g.hp id = some p → p.blk = b ∧ p.base = k) ∧ ∀ p, g.hp id = some p → p.base + off + cap * p.esz = p.size
  | .nilmap, v => v = .map none
  | .map id, v => id < g.nx ∧ ∃ r, v = .map (some r) ∧ ∀ p, g.hp id = some p → p.blk = r
  | .nilfn, v => v = .nilFunc
  | .fn f a b, v => ∃ xs ys, v = .func f xs ys ∧ Reps g a xs.toList ∧ Reps g b ys.toList
  | .nili, v => v = .nilIface
  | .iface t x, v => ∃ y, v = .iface t y ∧ Rep g x y
  | .agg cs, v => ∃ xs : Array Value, v = .agg xs ∧ Reps g cs xs.toList ∧ ∀ y ∈ xs.toList, cellV y
  | .tup xs, v => ∃ ys : Array Value, v = .tuple ys ∧ Reps g xs ys.toList
def Reps (g : G) : List V → List Value → Prop
  | [], ys => ys = []
  | x :: r, ys => ∃ y q, ys = y :: q ∧ Rep g x y ∧ Reps g r q
/-- The elements of an immutable row, from a place on. -/
def RepEls (g : G) (c : Bool) (sz b o : Nat) : List V → Prop
  | [] => True
  | e :: r => (∃ v, Rep g e v ∧ v.cells.size = e.cells.length ∧ e.cells.length = sz ∧ (∀ y ∈ v.cells.toList, cellV y) ∧ Locked g c b o v.cells.toList) ∧ RepEls g c sz b (o + sz) r
end

/-- The ghost has grown: what stays stays; of the objects that were there some are gone. -/
structure Ext (g g' : G) : Prop where
  L : ∀ c b o y, g.L c b o = some y → g'.L c b o = some y
  hp : ∀ id p, id < g.nx → g'.hp id = some p → g.hp id = some p
  nx : g.nx ≤ g'.nx

theorem Ext.refl (g : G) : Ext g g := ⟨fun _ _ _ _ h => h, fun _ _ _ h => h, Nat.le_refl _⟩
theorem Ext.trans {a b c : G} (h : Ext a b) (k : Ext b c) : Ext a c :=
  ⟨fun _ _ _ _ e => k.L _ _ _ _ (h.L _ _ _ _ e), fun id p hi e => h.hp id p hi (k.hp id p (Nat.lt_of_lt_of_le hi h.nx) e), Nat.le_trans h.nx k.nx⟩

theorem Locked.ext {g g' : G} (h : Ext g g') {c : Bool} {b o : Nat} {ys : List Value} (l : Locked g c b o ys) : Locked g' c b o ys := fun j y e => h.L _ _ _ _ (l j y e)

mutual
theorem Rep.ext {g g' : G} (h : Ext g g') : ∀ (x : V) (v : Value), Rep g x v → Rep g' x v
  | .undef, _, e => by simpa [Rep] using e
  | .bool _, _, e => by simpa [Rep] using e
  | .int _ _, _, e => by simpa [Rep] using e
  | .str _, _, e => by simpa [Rep] using e
  | .nilp, _, e => by simpa [Rep] using e
  | .ptr id off, v, e => by
    simp only [Rep] at e ⊢
    obtain ⟨hi, b, k, hv, hp⟩ := e
    exact ⟨Nat.lt_of_lt_of_le hi h.nx, b, k, hv, fun p q => hp p (h.hp id p hi q)⟩
  | .iptr cs, v, e => by
    simp only [Rep] at e ⊢
    obtain ⟨c, b, o, ys, he, hr, hc, hl⟩ := e
    exact ⟨c, b, o, ys, he, Reps.ext h cs ys hr, hc, hl.ext h⟩
  | .nsl, _, e => by simpa [Rep] using e
  | .isl c sz es, v, e => by
    simp only [Rep] at e ⊢
    obtain ⟨a, cap, b, o, he, hc, ha, hr⟩ := e
    exact ⟨a, cap, b, o, he, hc, ha, RepEls.ext h c sz b o es hr⟩
  | .msl id off n, v, e => by
    simp only [Rep] at e ⊢
    obtain ⟨hi, a, cap, he, hc, ha, hp⟩ := e
    exact ⟨Nat.lt_of_lt_of_le hi h.nx, a, cap, he, hc, fun h0 => let ⟨b, k, e1, e2⟩ := ha h0; ⟨b, k, e1, fun p q => e2 p (h.hp id p hi q)⟩, fun p q => hp p (h.hp id p hi q)⟩
  | .nilmap, _, e => by simpa [Rep] using e
  | .map id, v, e => by
    simp only [Rep] at e ⊢
    obtain ⟨hi, r, hv, hp⟩ := e
    exact ⟨Nat.lt_of_lt_of_le hi h.nx, r, hv, fun p q => hp p (h.hp id p hi q)⟩
  | .nilfn, _, e => by simpa [Rep] using e
  | .fn f a b, v, e => by
    simp only [Rep] at e ⊢
    obtain ⟨xs, ys, he, ha, hb⟩ := e
    exact ⟨xs, ys, he, Reps.ext h a _ ha, Reps.ext h b _ hb⟩
  | .nili, _, e => by simpa [Rep] using e
  | .iface t x, v, e => by
    simp only [Rep] at e ⊢
    obtain ⟨y, he, hx⟩ := e
    exact ⟨y, he, Rep.ext h x y hx⟩
  | .agg cs, v, e => by
    simp only [Rep] at e ⊢
    obtain ⟨xs, he, hr, hc⟩ := e
    exact ⟨xs, he, Reps.ext h cs _ hr, hc⟩
  | .tup xs, v, e => by
    simp only [Rep] at e ⊢
    obtain ⟨ys, he, hr⟩ := e
    exact ⟨ys, he, Reps.ext h xs _ hr⟩
theorem Reps.ext {g g' : G} (h : Ext g g') : ∀ (xs : List V) (ys : List Value), Reps g xs ys → Reps g' xs ys
  | [], _, e => by simpa [Reps] using e
  | x :: r, ys, e => by
    simp only [Reps] at e ⊢
    obtain ⟨y, q, he, hx, hr⟩ := e
    exact ⟨y, q, he, Rep.ext h x y hx, Reps.ext h r q hr⟩
theorem RepEls.ext {g g' : G} (h : Ext g g') (c : Bool) (sz b : Nat) : ∀ (o : Nat) (es : List V), RepEls g c sz b o es → RepEls g' c sz b o es
  | _, [], _ => by simp [RepEls]
  | o, e :: r, q => by
    simp only [RepEls] at q ⊢
    obtain ⟨⟨v, hv, hs, hz, hc, hl⟩, hr⟩ := q
    exact ⟨⟨v, Rep.ext h e v hv, hs, hz, hc, hl.ext h⟩, RepEls.ext h c sz b _ r hr⟩
end

/-! ### lists of values -/
theorem Reps.length {g : G} : ∀ {xs : List V} {ys : List Value}, Reps g xs ys → ys.length = xs.length
  | [], _, e => by simp only [Reps] at e; simp [e]
  | x :: r, ys, e => by
    simp only [Reps] at e
    obtain ⟨y, q, rfl, _, hr⟩ := e
    simp [hr.length]
theorem Reps.get {g : G} : ∀ {xs : List V} {ys : List Value} {i : Nat} {x : V}, Reps g xs ys → xs[i]? = some x → ∃ y, ys[i]? = some y ∧ Rep g x y
  | [], _, i, x, _, h => by simp at h
  | z :: r, ys, i, x, e, h => by
    simp only [Reps] at e
    obtain ⟨y, q, rfl, hz, hr⟩ := e
    cases i with
    | zero => simp at h; subst h; exact ⟨y, by simp, hz⟩
    | succ i => simpa using hr.get (by simpa using h)
theorem Reps.append {g : G} : ∀ {xs : List V} {ys : List Value} {us : List V} {vs : List Value}, Reps g xs ys → Reps g us vs → Reps g (xs ++ us) (ys ++ vs)
  | [], _, us, vs, e, h => by simp only [Reps] at e; subst e; simpa using h
  | x :: r, ys, us, vs, e, h => by
    simp only [Reps] at e
    obtain ⟨y, q, rfl, hx, hr⟩ := e
    simp only [List.cons_append, Reps]
    exact ⟨y, q ++ vs, rfl, hx, hr.append h⟩
theorem Reps.drop {g : G} : ∀ {xs : List V} {ys : List Value} (n : Nat), Reps g xs ys → Reps g (xs.drop n) (ys.drop n)
  | xs, ys, 0, e => by simpa using e
  | [], _, n + 1, e => by simp only [Reps] at e; subst e; simp [Reps]
  | x :: r, ys, n + 1, e => by
    simp only [Reps] at e
    obtain ⟨y, q, rfl, hx, hr⟩ := e
    simpa using hr.drop n
theorem Reps.take {g : G} : ∀ {xs : List V} {ys : List Value} (n : Nat), Reps g xs ys → Reps g (xs.take n) (ys.take n)
  | xs, ys, 0, e => by simp [Reps]
  | [], _, n + 1, e => by simp only [Reps] at e; subst e; simp [Reps]
  | x :: r, ys, n + 1, e => by
    simp only [Reps] at e
    obtain ⟨y, q, rfl, hx, hr⟩ := e
    simp only [List.take_succ_cons, Reps]
    exact ⟨y, q.take n, rfl, hx, hr.take n⟩
theorem Reps.of_get {g : G} : ∀ {xs : List V} {ys : List Value}, xs.length = ys.length → (∀ (i : Nat) (x : V), xs[i]? = some x → ∃ y, ys[i]? = some y ∧ Rep g x y) → Reps g xs ys
  | [], ys, hl, _ => by simp only [Reps]; cases ys with | nil => rfl | cons y q => simp at hl
  | x :: r, ys, hl, h => by
    cases ys with
    | nil => simp at hl
    | cons y q =>
      simp only [Reps]
      refine ⟨y, q, rfl, ?_, Reps.of_get (by simpa using hl) fun i z hz => ?_⟩
      · obtain ⟨y', hy, hr⟩ := h 0 x (by simp)
        simp at hy; subst hy; exact hr
      · simpa using h (i + 1) z (by simpa using hz)

/-! ### objects, the heap -/
/-- The cells of a row that lie in a block from a place on. -/
def CellsAt (g : G) (arr : Array Value) (base : Nat) (cs : List V) : Prop := ∀ j x, cs[j]? = some x → ∃ y, arr[base + j]? = some y ∧ Rep g x y
def soft (arr : Array Value) (fr : Nat × Nat) : Prop := ∀ o, o < arr.size → ¬ (fr.1 ≤ o ∧ o < fr.2)

inductive MapsAt (g : G) : List (V × V) → List MapEntry → Prop where
  | nil : MapsAt g [] []
  | cons {k x : V} {r : List (V × V)} {e : MapEntry} {q : List MapEntry} (hk : Rep g k e.key) (hx : Rep g x e.val) (h : MapsAt g r q) : MapsAt g ((k, x) :: r) (e :: q)

def ObjAt (w : World) (g : G) (p : Pl) : Obj → Prop
  | .cells t z cs => p.esz = z ∧ ∃ arr fr, w.heap[p.blk]? = some (.cells arr t fr) ∧ soft arr fr ∧ arr.size = p.size ∧ (∀ y ∈ arr.toList, cellV y) ∧ p.base + cs.length ≤ p.size ∧ CellsAt g arr p.base cs
  | .map es => ∃ ents clk, w.heap[p.blk]? = some (.map ents clk) ∧ MapsAt g es ents.toList

/-- What a program's own globals are known to hold: it speaks of cells that stay as they are. -/
class GL where
  ok : (Bool → Nat → Nat → Option Value) → Prop
  mono : ∀ L L', (∀ c b o y, L c b o = some y → L' c b o = some y) → ok L → ok L'

structure Inv [GL] (w : World) (g : G) (h : Heap) (nx : Nat) : Prop where
  nxe : g.nx = nx
  lock : ∀ c b o y, g.L c b o = some y → w.cell? ⟨b, o, none⟩ = some y
  obj : ∀ id o, hget h id = some o → id < nx ∧ ∃ p, g.hp id = some p ∧ ObjAt w g p o
  dom : ∀ id p, g.hp id = some p → ∃ o, hget h id = some o
  inj : ∀ i j p q, g.hp i = some p → g.hp j = some q → p.blk = q.blk → i = j
  unl : ∀ id p c o, g.hp id = some p → g.L c p.blk o = none
  glob : GL.ok g.L

/-- A frame's own block. -/
def BoxAt (w : World) (g : G) (b : Nat) (cs : List V) : Prop :=
  ∃ arr t fr, w.heap[b]? = some (.cells arr t fr) ∧ soft arr fr ∧ arr.size = cs.length ∧ (∀ y ∈ arr.toList, cellV y) ∧ CellsAt g arr 0 cs

def EnvAt (w : World) (g : G) (bx : Nat → Option Nat) (env : List (Nat × E)) (v : Value) (t : Nat) : E → Prop
  | .v x => Rep g x v
  | .box cs => ∃ b, bx t = some b ∧ v = .pointer (some ⟨b, 0, none⟩) ∧ BoxAt w g b cs
  | .lp u off => ∃ b, v = .pointer (some ⟨b, off, none⟩) ∧ ∀ cs, lget env u = some (.box cs) → bx u = some b

structure Env (w : World) (g : G) (bx : Nat → Option Nat) (env : List (Nat × E)) (tmps : Array Value) : Prop where
  at_ : ∀ t e, lget env t = some e → EnvAt w g bx env (tmps.getD t undef) t e
  box : ∀ t b, bx t = some b → ∃ cs, lget env t = some (.box cs)
  inj : ∀ t u b, bx t = some b → bx u = some b → t = u
  hp : ∀ t b id p, bx t = some b → g.hp id = some p → p.blk ≠ b
  unl : ∀ t b c o, bx t = some b → g.L c b o = none

/-- What a step may have done to the world and the ghost. -/
structure Step (w : World) (g : G) (w' : World) (g' : G) : Prop where
  os : w'.os = w.os
  tape : w'.tape = w.tape
  output : w'.output = w.output
  size : w.heap.size ≤ w'.heap.size
  ext : Ext g g'
  keep : ∀ b, b < w.heap.size → (∀ id p, g.hp id = some p → p.blk ≠ b) → w'.heap[b]? = w.heap[b]?
  hpNew : ∀ id p, g'.hp id = some p → w.heap.size ≤ p.blk ∨ ∃ i q, g.hp i = some q ∧ q.blk = p.blk
  lNew : ∀ c b o y, g'.L c b o = some y → g.L c b o = some y ∨ w.heap.size ≤ b ∨ ∃ i q, g.hp i = some q ∧ q.blk = b

theorem Step.refl (w : World) (g : G) : Step w g w g :=
  ⟨rfl, rfl, rfl, Nat.le_refl _, Ext.refl g, fun _ _ _ => rfl, fun id p h => .inr ⟨id, p, h, rfl⟩, fun _ _ _ _ h => .inl h⟩
theorem Step.trans {w w1 w2 : World} {g g1 g2 : G} (h : Step w g w1 g1) (k : Step w1 g1 w2 g2) : Step w g w2 g2 := by
  refine ⟨k.os.trans h.os, k.tape.trans h.tape, k.output.trans h.output, Nat.le_trans h.size k.size, h.ext.trans k.ext, fun b hb hn => ?_, fun id p hp => ?_, fun c b o y hl => ?_⟩
  · rw [k.keep b (Nat.lt_of_lt_of_le hb h.size) fun id p hp => ?_, h.keep b hb hn]
    rcases h.hpNew id p hp with hge | ⟨i, q, hq, he⟩
    · omega
    · rw [← he]; exact hn i q hq
  · rcases k.hpNew id p hp with hge | ⟨i, q, hq, he⟩
    · exact .inl (Nat.le_trans h.size hge)
    · rcases h.hpNew i q hq with hge | ⟨i', q', hq', he'⟩
      · exact .inl (he ▸ hge)
      · exact .inr ⟨i', q', hq', he'.trans he⟩
  · rcases k.lNew c b o y hl with h1 | hge | ⟨i, q, hq, he⟩
    · exact h.lNew c b o y h1
    · exact .inr (.inl (Nat.le_trans h.size hge))
    · rcases h.hpNew i q hq with hge | ⟨i', q', hq', he'⟩
      · exact .inr (.inl (he ▸ hge))
      · exact .inr (.inr ⟨i', q', hq', he'.trans he⟩)

/-- A step of another function's leaves a frame's own blocks and values as they are. -/
theorem CellsAt.ext {g g' : G} (h : Ext g g') {arr : Array Value} {base : Nat} {cs : List V} (e : CellsAt g arr base cs) : CellsAt g' arr base cs :=
  fun j x hx => let ⟨y, hy, hr⟩ := e j x hx; ⟨y, hy, Rep.ext h x y hr⟩
theorem BoxAt.lt {w : World} {g : G} {b : Nat} {cs : List V} (e : BoxAt w g b cs) : b < w.heap.size := by
  obtain ⟨arr, t, fr, hb, _⟩ := e
  exact (Array.getElem?_eq_some_iff.1 hb).1
theorem BoxAt.step {w w' : World} {g g' : G} {b : Nat} {cs : List V} (s : Step w g w' g') (hn : ∀ id p, g.hp id = some p → p.blk ≠ b) (e : BoxAt w g b cs) : BoxAt w' g' b cs := by
  have hlt := e.lt
  obtain ⟨arr, t, fr, hb, hf, hs, hc, hx⟩ := e
  exact ⟨arr, t, fr, (s.keep b hlt hn).trans hb, hf, hs, hc, hx.ext s.ext⟩
theorem Env.step {w w' : World} {g g' : G} {bx : Nat → Option Nat} {env : List (Nat × E)} {tmps : Array Value} (s : Step w g w' g') (e : Env w g bx env tmps) : Env w' g' bx env tmps := by
  have hlt : ∀ t b, bx t = some b → b < w.heap.size := fun t b hb => by
    obtain ⟨cs, hcs⟩ := e.box t b hb
    obtain ⟨b', hb', _, hbox⟩ := e.at_ t _ hcs
    rw [hb] at hb'; cases hb'
    exact hbox.lt
  refine ⟨fun t x hx => ?_, e.box, e.inj, fun t b id p hb hp => ?_, fun t b c o hb => ?_⟩
  · have h := e.at_ t x hx
    cases x with
    | v x => exact Rep.ext s.ext x _ h
    | box cs =>
      obtain ⟨b, hb, hv, hbox⟩ := h
      exact ⟨b, hb, hv, hbox.step s (fun id p hp => e.hp t b id p hb hp)⟩
    | lp u off => exact h
  · rcases s.hpNew id p hp with hge | ⟨i, q, hq, he⟩
    · have := hlt t b hb; omega
    · rw [← he]; exact e.hp t b i q hb hq
  · cases hl : g'.L c b o with
    | none => rfl
    | some y =>
      rcases s.lNew c b o y hl with h1 | hge | ⟨i, q, hq, he⟩
      · rw [e.unl t b c o hb] at h1; cases h1
      · have := hlt t b hb; omega
      · exact absurd he (e.hp t b i q hb hq)
end Go.Air
