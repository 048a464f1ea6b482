/- AIR: append, copy, maps, deferred calls. -/
import Derived.Test.YtkedfokcclpihaaGreatDoorAirWrite
import Derived.Deep.Upon
set_option linter.unusedSectionVars false
set_option linter.unusedSimpArgs false
set_option linter.unusedVariables false
set_option linter.unnecessarySimpa false
namespace Go.Air
variable [GL]

section
variable {P : Program} {rc : Bool} {nt : Nat} {w0 : World} {g0 : G} {w w1 : World} {g : G} {bx : Nat → Option Nat} {s s' : St} {a : Act} {o : Oper}

/-! ### an object that goes, an object that moves -/
def G.del (g : G) (id : Nat) : G := ⟨g.L, fun j => if j = id then none else g.hp j, g.nx⟩
theorem del_inv {hp : Heap} {nx id : Nat} (hi : Inv w g hp nx) : Inv w (g.del id) (hdel hp id) nx ∧ Step w g w (g.del id) := by
  have hpj : ∀ j q, (g.del id).hp j = some q → j ≠ id ∧ g.hp j = some q := fun j q hj => by
    have hj' : (if j = id then none else g.hp j) = some q := hj
    split at hj'
    · cases hj'
    · rename_i hne; exact ⟨hne, hj'⟩
  have hext : Ext g (g.del id) := ⟨fun _ _ _ _ h => h, fun j q _ hj => (hpj j q hj).2, Nat.le_refl _⟩
  refine ⟨⟨hi.nxe, hi.lock, fun j o ho => ?_, fun j q hj => ?_, fun i j q r h1 h2 h3 => hi.inj i j q r (hpj i q h1).2 (hpj j r h2).2 h3, fun j q c o hj => hi.unl j q c o (hpj j q hj).2, hi.glob⟩,
    ⟨rfl, rfl, rfl, Nat.le_refl _, hext, fun _ _ _ => rfl, fun j q hj => .inr ⟨j, q, (hpj j q hj).2, rfl⟩, fun _ _ _ _ hl => .inl hl⟩⟩
  · rw [hget_hdel] at ho
    split at ho
    · cases ho
    · rename_i hne
      obtain ⟨h1, q, hq, hat⟩ := hi.obj j o ho
      exact ⟨h1, q, (if_neg hne).trans hq, hat.move hext rfl⟩
  · obtain ⟨hne, hq⟩ := hpj j q hj
    obtain ⟨o, ho⟩ := hi.dom j q hq
    exact ⟨o, by rw [hget_hdel, if_neg hne]; exact ho⟩

def G.mov (g : G) (id nx : Nat) (p : Pl) : G := ⟨g.L, fun j => if j = nx then some p else if j = id then none else g.hp j, nx + 1⟩
theorem mov_inv {hp : Heap} {nx id : Nat} {p p' : Pl} {X : Go.Obj} {ob : Obj} (hi : Inv w g hp nx) (hp0 : g.hp id = some p) (hpb : p'.blk = p.blk) (hw : w1.heap = w.heap.setIfInBounds p.blk X)
    (hat : ∀ g1, Ext g g1 → ObjAt w1 g1 p' ob) (ho : w1.os = w.os) (ht : w1.tape = w.tape) (hout : w1.output = w.output) :
    Inv w1 (g.mov id nx p') (hset (hdel hp id) nx ob) (nx + 1) ∧ Step w g w1 (g.mov id nx p') := by
  have hid : id < nx := by
    obtain ⟨o, h1⟩ := hi.dom id p hp0
    exact (hi.obj id o h1).1
  have hpj : ∀ j q, (g.mov id nx p').hp j = some q → (j = nx ∧ q = p') ∨ (j ≠ nx ∧ j ≠ id ∧ g.hp j = some q) := fun j q hj => by
    have hj' : (if j = nx then some p' else if j = id then none else g.hp j) = some q := hj
    split at hj'
    · rename_i h; cases hj'; exact .inl ⟨h, rfl⟩
    · rename_i h
      split at hj'
      · cases hj'
      · rename_i h2; exact .inr ⟨h, h2, hj'⟩
  have hlt : ∀ j q, g.hp j = some q → j < nx := fun j q hq => by
    obtain ⟨o, h1⟩ := hi.dom j q hq
    exact (hi.obj j o h1).1
  have hext : Ext g (g.mov id nx p') := by
    refine ⟨fun _ _ _ _ h => h, fun j q hj hq => ?_, ?_⟩
    · rcases hpj j q hq with ⟨rfl, _⟩ | ⟨_, _, h⟩
      · rw [hi.nxe] at hj; omega
      · exact h
    · show g.nx ≤ nx + 1
      rw [hi.nxe]; omega
  have hother : ∀ b, b ≠ p.blk → w1.heap[b]? = w.heap[b]? := fun b hb => by rw [hw, Array.getElem?_setIfInBounds_ne (Ne.symm hb)]
  refine ⟨⟨rfl, fun c b o y hl => ?_, fun j o' hj => ?_, fun j q hj => ?_, fun i j q r h1 h2 h3 => ?_, fun j q c o' hj => ?_, hi.glob⟩,
    ⟨ho, ht, hout, by rw [hw]; simp, hext, fun b _ hn => hother b fun h => hn id p hp0 h.symm, fun j q hj => ?_, fun _ _ _ _ hl => .inl hl⟩⟩
  · have hb : b ≠ p.blk := fun h => by
      have hl' : g.L c b o = some y := hl
      rw [h, hi.unl id p c o hp0] at hl'; cases hl'
    have := hi.lock c b o y hl
    unfold World.cell? at this ⊢
    rw [hother b hb]; exact this
  · rw [hget_hset] at hj
    split at hj
    · rename_i hjn; cases hj; subst hjn
      exact ⟨Nat.lt_succ_self _, p', if_pos rfl, hat _ hext⟩
    · rename_i hjn
      rw [hget_hdel] at hj
      split at hj
      · cases hj
      · rename_i hji
        obtain ⟨h1, q, hq, hq2⟩ := hi.obj j o' hj
        refine ⟨Nat.lt_succ_of_lt h1, q, ?_, hq2.move hext (hother _ fun h => hji (hi.inj j id q p hq hp0 h))⟩
        show (if j = nx then some p' else if j = id then none else g.hp j) = some q
        rw [if_neg hjn, if_neg hji]; exact hq
  · rcases hpj j q hj with ⟨rfl, rfl⟩ | ⟨h1, h2, h3⟩
    · exact ⟨ob, by rw [hget_hset, if_pos rfl]⟩
    · obtain ⟨o', h4⟩ := hi.dom j q h3
      exact ⟨o', by rw [hget_hset, if_neg h1, hget_hdel, if_neg h2]; exact h4⟩
  · rcases hpj i q h1 with ⟨rfl, rfl⟩ | ⟨h4, h5, h6⟩ <;> rcases hpj j r h2 with ⟨rfl, rfl⟩ | ⟨h7, h8, h9⟩
    · rfl
    · exact absurd (hi.inj j id r p h9 hp0 (by rw [← h3, hpb])) h8
    · exact absurd (hi.inj i id q p h6 hp0 (by rw [h3, hpb])) h5
    · exact hi.inj i j q r h6 h9 h3
  · rcases hpj j q hj with ⟨rfl, rfl⟩ | ⟨h1, h2, h3⟩
    · rw [hpb]; exact hi.unl id p c o' hp0
    · exact hi.unl j q c o' h3
  · rcases hpj j q hj with ⟨rfl, rfl⟩ | ⟨h1, h2, h3⟩
    · exact .inr ⟨id, p, hp0, hpb.symm⟩
    · exact .inr ⟨j, q, h3, rfl⟩

theorem byteV_reps (g : G) : ∀ t : List UInt8, Reps g (t.map byteV) (t.map fun b => Value.int .u8 b.toNat)
  | [] => by simp [Reps]
  | c :: r => by simp only [List.map_cons, Reps]; exact ⟨_, _, rfl, by simp [byteV, Rep], byteV_reps g r⟩

/-- Where what is appended comes from. -/
theorem src_ok (hi : Inv w g s.hp s.nx) {tx : TypeId} (hk : (∃ e', P.underlying tx = some (.slice e')) ∨ P.underlying tx = some .string) {x : V} {v : Value} {n k : Nat} {cs : List V} (hr : Rep g x v) (h : s.row n x = some (cs, k)) :
    ∃ ys, Src P n tx v k ys w ∧ Reps g cs ys ∧ ∀ y ∈ ys, cellV y := by
  rcases row_ok hi hr h with ⟨A, cap, ys, rfl, hcap, hys, hyl, hyc, hA, hcell⟩ | ⟨t, rfl, rfl, rfl, rfl, rfl⟩
  · refine ⟨ys, ?_, hys, hyc⟩
    have h1 : ∀ u ∈ ys, u.oneCell' = true := fun u hu => one_of_cellV (hyc u hu)
    cases A with
    | none =>
      have := hA rfl
      subst this
      have : ys = [] := by simpa using hyl
      subst this
      exact ⟨hk, fun _ => rfl, run_firstCells_none w n 0 0 cap, run_firstCells_none w.drew n 0 0 cap, by simp, h1⟩
    | some A =>
      have hc : ∀ j u, ys[j]? = some u → w.cell? (A.add j) = some u := fun j u hj => by
        have hlt : j < k * n := by have := (List.getElem?_eq_some_iff.1 hj).1; omega
        have hk0 : 0 < k := by
          rcases Nat.eq_zero_or_pos k with h0 | h0
          · subst h0; simp at hlt
          · exact h0
        obtain ⟨b, o, hAe, hc⟩ := hcell hk0
        cases hAe
        rw [addr_add]
        exact hc j u hj
      exact ⟨hk, fun _ => rfl, run_firstCells_some w n k A k cap ys hyl hc, run_firstCells_some w.drew n k A k cap ys hyl (by simpa using hc), hyl, h1⟩
  · have e : byteCells ⟨t.toArray⟩ = t.map fun b => Value.int .u8 b.toNat := by simp [byteCells]
    have hsz : (⟨t.toArray⟩ : ByteArray).size = t.length := by simp [ByteArray.size]
    refine ⟨t.map fun b => Value.int .u8 b.toNat, ?_, byteV_reps g t, fun y hy => ?_⟩
    · have h1 := firstCells_string (P := P) ⟨t.toArray⟩ w
      have h2 := firstCells_string (P := P) ⟨t.toArray⟩ w.drew
      rw [hsz, e] at h1 h2
      exact ⟨hk, fun _ => by simp only [Builtin.lenOf, hsz]; rfl, h1, h2, by simp, fun u hu => by obtain ⟨c, _, rfl⟩ := List.mem_map.1 hu; rfl⟩
    · obtain ⟨c, _, rfl⟩ := List.mem_map.1 hy; trivial

theorem zeroCells_ok {zc : Array Value} (hz : 0 < zc.size) (h : ∀ y ∈ zc.toList, cellV y) (m : Nat) : (Builtin.zeroCells zc m).size = m * zc.size ∧ ∀ y ∈ (Builtin.zeroCells zc m).toList, cellV y := by
  refine ⟨by simp [Builtin.zeroCells], fun y hy => ?_⟩
  simp only [Builtin.zeroCells, Array.toList_map, List.mem_map] at hy
  obtain ⟨i, _, rfl⟩ := hy
  have hm : i % zc.size < zc.size := Nat.mod_lt _ hz
  rw [getElem!_pos zc _ hm]
  exact h _ (by simp)

theorem append_run {c : Call} {x y : Operand} {t u : TypeId} (ho : o.op = .call c) (hc : c.callee = .builtin .append) (ha : c.args.toList = [x, y]) (hts : c.argTypes.toList = [t, u]) {v : Value}
    (hr : (Builtin.append_ #[t, u] o.type #[a.eval x, a.eval y]).run P w = .ok v w1) : (execOp a.eval o).run P w = .ok (.value v) w1 := by
  have ha' : c.args = #[x, y] := by rw [← ha]
  have ht' : c.argTypes = #[t, u] := by rw [← hts]
  simp only [execOp, ho, resolve, hc, ha', ht', Sem.run_bind, Sem.run_pure, Result.andThen_ok, invoke, builtin, List.map_toArray, List.map_cons, List.map_nil, hr]

theorem append_ok (h : Sim rc nt w0 g0 w g bx s a) {t u e : TypeId} {z : Nat} {agg : Bool} {zs : List V} {c : Call} {x y : Operand} (he : elemP P t = some (e, z, agg, zs)) (hb : bytesOk P e = true)
    (hk : (∃ e', P.underlying u = some (.slice e')) ∨ P.underlying u = some .string) (ho : o.op = .call c) (hc : c.callee = .builtin .append) (ha : c.args.toList = [x, y]) (hts : c.argTypes.toList = [t, u]) :
    Acts P rc nt w0 g0 w bx a o (evAppend e z (opd x) (opd y) s) := by
  obtain ⟨hu, hn, hz0, rfl, hz, hzl⟩ := elem_of he
  obtain ⟨i, v, hi, hv, hzrun, hzl', hcv, hzr⟩ := zero_of (P := P) (w := w) hz
  obtain ⟨i', d, hi', hs, hd, _⟩ := size_of hn
  rw [hi] at hi'; cases hi'
  subst hs
  obtain ⟨hb1, _⟩ := bytes_of hi hb
  unfold evAppend
  split
  · rename_i A hA
    have hAr := v_opd h.env hA
    split
    · rename_i X hX
      have hXr := v_opd h.env hX
      split
      · rename_i xs k hrow
        obtain ⟨ys, hsrc, hys, hyc⟩ := src_ok (P := P) h.inv hk hXr hrow
        have hyl := hsrc.newsLen
        have hxl := hys.length
        unfold appendTo
        split
        · have hys0 : ys = [] := by simpa using hyl
          subst hys0
          have same : ∀ (base : Option Addr) (len cap : Nat), a.eval x = .slice base len cap → len ≤ cap → Acts P rc nt w0 g0 w bx a o (s.val A) := fun base len cap hv hle => by
            have hr := run_append_nothing (P := P) w t u o.type e i hu hi base len cap hle (a.eval y) hsrc
            exact Acts.of_value (append_run ho hc ha hts (by rw [hv]; exact hr)) h (by rw [← hv]; exact hAr)
          split
          · simp only [Rep] at hAr
            exact same none 0 0 hAr (Nat.le_refl _)
          · simp only [Rep] at hAr
            obtain ⟨A', cap, b, off, hv', hcap, _⟩ := hAr
            exact same A' _ cap hv' hcap
          · simp only [Rep] at hAr
            obtain ⟨_, A', cap, hv', hcap, _⟩ := hAr
            exact same (some A') _ cap hv' hcap
          · exact Acts.none
        · rename_i k'
          replace hyl : ys.length = (k' + 1) * i.size := hyl
          replace hsrc : Src P i.size u (a.eval y) (k' + 1) ys w := hsrc
          split
          · refine Acts.gd fun hle => ?_
            have hle := Nat.le_of_ble_eq_true hle
            simp only [Rep] at hAr
            have hfit : Builtin.nextslicecap (0 + (k' + 1)) 0 * i.bytes ≤ 281474976710656 := growslice_fits (by omega) (by
              have h1 : (0 + (k' + 1)) * i.bytes ≤ 2147483647 * 4096 := Nat.mul_le_mul (by omega) hb1
              omega)
            have hr := run_append_grow_src (P := P) w t u o.type e i v hu hi hv none 0 0 [] (run_firstCells_none w.drew i.size 0 0 0) (a.eval y) (k' + 1) ys hsrc (by omega) (by omega) hfit
            generalize hcapd : grownCap w (0 + (k' + 1)) 0 e = cap at hr
            have hge : 0 + (k' + 1) ≤ cap := by rw [← hcapd]; exact grownCap_ge w _ _ e
            obtain ⟨hzs, hzc⟩ := zeroCells_ok (zc := v.cells) (by omega) hcv (cap - (0 + (k' + 1)))
            simp only [List.nil_append, Nat.zero_add] at hr hge hzs hzc
            generalize harr : ys.toArray ++ Builtin.zeroCells v.cells (cap - (k' + 1)) = arr at hr
            have hsz : arr.size = cap * i.size := by
              rw [← harr, Array.size_append, hzs, List.size_toArray, hyl, ← hzl', hzl, ← Nat.add_mul]
              congr 1; omega
            have hcell : ∀ y ∈ arr.toList, cellV y := by
              rw [← harr]
              intro y hy
              simp only [Array.toList_append, List.mem_append] at hy
              rcases hy with hy | hy
              · exact hyc y hy
              · exact hzc y hy
            have hat : CellsAt g arr 0 xs := fun j q hj => by
              obtain ⟨y, hy, hq⟩ := hys.get hj
              refine ⟨y, ?_, hq⟩
              have hlt := (List.getElem?_eq_some_iff.1 hy).1
              rw [← harr, Nat.zero_add, Array.getElem?_append_left (by simpa using hlt)]
              simpa using hy
            have hle2 : xs.length ≤ arr.size := by
              rw [hsz, ← hxl, hyl]
              exact Nat.mul_le_mul_right _ hge
            obtain ⟨h1, hext⟩ := new_ok (w1 := w.drew.alloc (.cells arr e)) (p := ⟨w.heap.size, 0, arr.size, i.size⟩) (ob := .cells e i.size xs) h rfl rfl
              (objAt_new (w := w) rfl (soft0 _) hcell hat hle2) rfl rfl rfl
            exact Acts.of_value (append_run ho hc ha hts (by rw [hAr]; exact hr)) h1 (rep_new_msl (p := ⟨w.heap.size, 0, arr.size, i.size⟩) rfl s.nx (k' + 1) cap hge hsz.symm)
          · rename_i id off n
            unfold St.grow
            split
            · rename_i uu zz cs hob
              refine Acts.gd fun hcond => ?_
              obtain ⟨h1, hcond⟩ := and_le hcond
              obtain ⟨h2, hcond⟩ := and_le hcond
              obtain ⟨h3, h4⟩ := and_le hcond
              have h1 := Nat.eq_of_beq_eq_true h1
              have h2 := Nat.eq_of_beq_eq_true h2
              have h3 := Nat.le_of_ble_eq_true h3
              have h4 := Nat.le_of_ble_eq_true h4
              rw [lenR_eq] at h4
              subst h1 h2
              simp only [Rep] at hAr
              obtain ⟨hid, A', cap, hv', hcap, hAd, hpe⟩ := hAr
              obtain ⟨_, p, hpp, hesz, arr, fr, hbk, hf, hs, hcl, hlen, hcells⟩ := h.inv.obj id _ hob
              have hps := hpe p hpp
              rw [hesz] at hps
              rw [appR_eq, takeR_eq, dropR_eq]
              have hold := (Reps.of_cells hcells (by omega)).drop off |>.take (n * i.size)
              generalize holds : ((((arr.toList.drop p.base).take cs.length).drop off).take (n * i.size)) = olds at hold
              have hol : olds.length = n * i.size := by rw [← holds]; simp; omega
              have holdc : ∀ y ∈ olds, cellV y := fun y hy => hcl y (by rw [← holds] at hy; exact List.mem_of_mem_drop (List.mem_of_mem_take (List.mem_of_mem_drop (List.mem_of_mem_take hy))))
              have holdg : ∀ j y, olds[j]? = some y → arr[p.base + off + j]? = some y := fun j y hj => by
                rw [← holds, List.getElem?_take] at hj
                split at hj
                · rw [List.getElem?_drop, List.getElem?_take] at hj
                  split at hj
                  · rw [List.getElem?_drop, Array.getElem?_toList] at hj
                    rw [Nat.add_assoc]; exact hj
                  · cases hj
                · cases hj
              have hcl2 : ((cs.drop off).take (n * i.size)).length = n * i.size := by simp; omega
              by_cases hroom : n + (k' + 1) ≤ cap
              · obtain ⟨b, q, rfl, hq⟩ := hAd (by omega)
                obtain ⟨rfl, rfl⟩ := hq p hpp
                have hmul : (n + (k' + 1)) * i.size ≤ cap * i.size := Nat.mul_le_mul_right _ hroom
                rw [Nat.add_mul] at hmul
                have hr := run_append_room_src (P := P) w t u o.type uu i hu hi p.blk (p.base + off) n cap (a.eval y) (k' + 1) ys hsrc hroom
                  (fun j hj => by
                    rw [cell_arr hbk]
                    have : p.base + off + n * i.size + j < arr.size := by omega
                    simp [this]) (fun j hj => soft_frozen hbk hf (by omega))
                rw [setCells_heap p.blk uu fr ys (p.base + off + n * i.size) arr w hbk (by omega)] at hr
                have hsz := size_wr (arr := arr) (m := p.base + off + n * i.size) (vs := ys) (by omega)
                have hcv2 : ∀ y ∈ (arr.toList.take (p.base + off + n * i.size) ++ (ys ++ arr.toList.drop (p.base + off + n * i.size + ys.length))).toArray.toList, cellV y := cellV_wr hcl hyc
                have hat : CellsAt g (arr.toList.take (p.base + off + n * i.size) ++ (ys ++ arr.toList.drop (p.base + off + n * i.size + ys.length))).toArray (p.base + off) ((cs.drop off).take (n * i.size) ++ xs) := by
                  intro j q hj
                  rw [List.getElem?_toArray]
                  by_cases hj1 : j < n * i.size
                  · rw [List.getElem?_append_left (by omega)] at hj
                    obtain ⟨yv, hy, hq⟩ := hold.get hj
                    refine ⟨yv, ?_, hq⟩
                    rw [List.getElem?_append_left (by simp; omega), List.getElem?_take, if_pos (by omega), Array.getElem?_toList]
                    exact holdg j yv hy
                  · rw [List.getElem?_append_right (by omega), hcl2] at hj
                    obtain ⟨yv, hy, hq⟩ := hys.get hj
                    refine ⟨yv, ?_, hq⟩
                    have hylt := (List.getElem?_eq_some_iff.1 hy).1
                    have e2 : (arr.toList.take (p.base + off + n * i.size)).length = p.base + off + n * i.size := by simp; omega
                    rw [List.getElem?_append_right (by omega), e2, List.getElem?_append_left (by omega)]
                    rw [show p.base + off + j - (p.base + off + n * i.size) = j - n * i.size by omega]
                    exact hy
                generalize (arr.toList.take (p.base + off + n * i.size) ++ (ys ++ arr.toList.drop (p.base + off + n * i.size + ys.length))).toArray = arr' at hr hsz hcv2 hat
                obtain ⟨hin, st⟩ := mov_inv (w1 := w.setRow p.blk arr') (id := id) (p' := ⟨p.blk, p.base + off, p.size, i.size⟩) (ob := .cells uu i.size ((cs.drop off).take (n * i.size) ++ xs)) h.inv hpp rfl (setRow_eq hbk)
                  (fun g1 hx => ⟨rfl, arr', fr, setRow_heap w p.blk arr arr' uu fr hbk, soft_size hf hsz, hsz.trans hs, hcv2, by rw [List.length_append, hcl2]; show p.base + off + _ ≤ p.size; omega, hat.ext hx⟩) rfl rfl rfl
                refine Acts.of_value (append_run ho hc ha hts (by rw [hv']; exact hr)) (h.go st hin) ?_
                have hp' : (g.mov id s.nx ⟨p.blk, p.base + off, p.size, i.size⟩).hp s.nx = some ⟨p.blk, p.base + off, p.size, i.size⟩ := if_pos rfl
                show Rep _ _ _
                simp only [Rep]
                refine ⟨Nat.lt_succ_self _, _, cap, rfl, hroom, fun _ => ⟨p.blk, p.base + off, rfl, fun q hq => ?_⟩, fun q hq => ?_⟩
                · rw [hp'] at hq; cases hq; exact ⟨rfl, rfl⟩
                · rw [hp'] at hq; cases hq; exact hps
              · have hfit : Builtin.nextslicecap (n + (k' + 1)) cap * i.bytes ≤ 281474976710656 := growslice_fits (by omega) (by
                  have h1 : (n + (k' + 1)) * i.bytes ≤ 2147483647 * 4096 := Nat.mul_le_mul h3 hb1
                  omega)
                have hfc : (Builtin.firstCells i.size n (.slice (some A') n cap)).run P w.drew = .ok olds.toArray w.drew := by
                  refine run_firstCells_some w.drew i.size n A' n cap olds hol fun j y hj => ?_
                  have hlt : j < n * i.size := by have := (List.getElem?_eq_some_iff.1 hj).1; omega
                  have hn0 : 0 < n := by
                    rcases Nat.eq_zero_or_pos n with h0 | h0
                    · subst h0; simp at hlt
                    · exact h0
                  obtain ⟨b, q, rfl, hq⟩ := hAd (by omega)
                  obtain ⟨rfl, rfl⟩ := hq p hpp
                  rw [addr_add]
                  show w.cell? _ = _
                  rw [cell_arr hbk]
                  exact holdg j y hj
                have hr := run_append_grow_src (P := P) w t u o.type uu i v hu hi hv (some A') n cap olds hfc (a.eval y) (k' + 1) ys hsrc (by omega) (by omega) hfit
                generalize hcapd : grownCap w (n + (k' + 1)) cap uu = cap' at hr
                have hge : n + (k' + 1) ≤ cap' := by rw [← hcapd]; exact grownCap_ge w _ _ uu
                obtain ⟨hzs, hzc⟩ := zeroCells_ok (zc := v.cells) (by omega) hcv (cap' - (n + (k' + 1)))
                generalize harr : (olds ++ ys).toArray ++ Builtin.zeroCells v.cells (cap' - (n + (k' + 1))) = arr' at hr
                have hsz : arr'.size = cap' * i.size := by
                  rw [← harr, Array.size_append, hzs, List.size_toArray, List.length_append, hol, hyl, ← hzl', hzl, ← Nat.add_mul, ← Nat.add_mul]
                  congr 1; omega
                have hcell : ∀ y ∈ arr'.toList, cellV y := by
                  rw [← harr]
                  intro y hy
                  simp only [Array.toList_append, List.mem_append] at hy
                  rcases hy with (hy | hy) | hy
                  · exact holdc y hy
                  · exact hyc y hy
                  · exact hzc y hy
                have hall : Reps g ((cs.drop off).take (n * i.size) ++ xs) (olds ++ ys) := hold.append hys
                have hat : CellsAt g arr' 0 ((cs.drop off).take (n * i.size) ++ xs) := fun j q hj => by
                  obtain ⟨y, hy, hq⟩ := hall.get hj
                  refine ⟨y, ?_, hq⟩
                  have hlt := (List.getElem?_eq_some_iff.1 hy).1
                  rw [← harr, Nat.zero_add, Array.getElem?_append_left (by simpa using hlt)]
                  simpa using hy
                have hle2 : ((cs.drop off).take (n * i.size) ++ xs).length ≤ arr'.size := by
                  rw [hsz, List.length_append, hcl2, ← hxl, hyl, ← Nat.add_mul]
                  exact Nat.mul_le_mul_right _ hge
                obtain ⟨hin0, st0⟩ := del_inv (id := id) h.inv
                have hat' := objAt_new (w := w) (w1 := w.drew.alloc (.cells arr' uu)) (t := uu) (z := i.size) rfl (soft0 _) hcell (hat.ext st0.ext) hle2
                obtain ⟨hin, st⟩ := add_inv (w1 := w.drew.alloc (.cells arr' uu)) (p := ⟨w.heap.size, 0, arr'.size, i.size⟩) hin0 rfl rfl hat' rfl rfl rfl
                exact Acts.of_value (append_run ho hc ha hts (by rw [hv']; exact hr)) (h.go (st0.trans st) hin) (rep_new_msl (p := ⟨w.heap.size, 0, arr'.size, i.size⟩) rfl s.nx (n + (k' + 1)) cap' hge hsz.symm)
            · exact Acts.none
          · exact Acts.none
      · exact Acts.none
    · exact Acts.none
  · exact Acts.none
end
end Go.Air
