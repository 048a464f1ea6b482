/- AIR: copy, maps, text to bytes, deferred calls. -/
import Derived.Test.YtkedfokcclpihaaGreatDoorAirAppend
set_option linter.unusedSectionVars false
set_option linter.unusedSimpArgs false
set_option linter.unusedVariables false
set_option linter.unnecessarySimpa false
namespace Go.Air
variable [GL]
open Go.MapKept

section
variable {P : Program} {rc : Bool} {nt : Nat} {w0 : World} {g0 : G} {w w1 : World} {g : G} {bx : Nat → Option Nat} {s s' : St} {a : Act} {o : Oper}

theorem call2_run {c : Call} {x y : Operand} {t u : TypeId} {b : Builtin} (hb : ∀ ts ty cs as, builtin b ts ty cs as = (do pure (.value (← (match b with | .copy => Builtin.copy_ ts ty as | .delete => Builtin.delete_ ts ty as | _ => stuck "")))) )
    (ho : o.op = .call c) (hc : c.callee = .builtin b) (ha : c.args.toList = [x, y]) (hts : c.argTypes.toList = [t, u]) {v : Value}
    (hr : (match b with | .copy => Builtin.copy_ #[t, u] o.type #[a.eval x, a.eval y] | .delete => Builtin.delete_ #[t, u] o.type #[a.eval x, a.eval y] | _ => stuck "").run P w = .ok v w1) : (execOp a.eval o).run P w = .ok (.value v) w1 := by
  have ha' : c.args = #[x, y] := by rw [← ha]
  have ht' : c.argTypes = #[t, u] := by rw [← hts]
  simp only [execOp, ho, resolve, hc, ha', ht', Sem.run_bind, Sem.run_pure, Result.andThen_ok, invoke, hb, List.map_toArray, List.map_cons, List.map_nil, hr]

theorem goInt_min (m n : Nat) : goInt (Nat.min m n) = .int .i64 (Int.ofNat (Nat.min m n)) := rfl

theorem copy_ok (h : Sim rc nt w0 g0 w g bx s a) {t u e : TypeId} {z : Nat} {agg : Bool} {zs : List V} {c : Call} {x y : Operand} (he : elemP P t = some (e, z, agg, zs))
    (ho : o.op = .call c) (hc : c.callee = .builtin .copy) (ha : c.args.toList = [x, y]) (hts : c.argTypes.toList = [t, u]) :
    Acts P rc nt w0 g0 w bx a o (evCopy z (opd x) (opd y) s) := by
  obtain ⟨hu, hn, hz0, rfl, hz, hzl⟩ := elem_of he
  have run : ∀ {v : Value} {w1 : World}, (Builtin.copy_ #[t, u] o.type #[a.eval x, a.eval y]).run P w = .ok v w1 → (execOp a.eval o).run P w = .ok (.value v) w1 := fun hr =>
    call2_run (fun _ _ _ _ => rfl) ho hc ha hts hr
  unfold evCopy
  split
  · rename_i X hX
    have hXr := v_opd h.env hX
    split
    · rename_i xs k hrow
      -- what the source holds
      have src : ∀ d, d ≤ k → ∃ ys, (Builtin.lenOf (a.eval y)).run P w = .ok k w ∧ (Builtin.firstCells z d (a.eval y)).run P w = .ok ys.toArray w ∧ Reps g (xs.take (d * z)) ys ∧ ys.length = d * z ∧ ∀ q ∈ ys, cellV q := by
        intro d hd
        rcases row_ok h.inv hXr hrow with ⟨A, cap, ys, hv, hcap, hys, hyl, hyc, hA, hcell⟩ | ⟨t', rfl, rfl, hv, rfl, rfl⟩
        · have hlen : (ys.take (d * z)).length = d * z := by
            rw [List.length_take, hyl, Nat.min_eq_left (Nat.mul_le_mul_right _ hd)]
          refine ⟨ys.take (d * z), by rw [hv]; rfl, ?_, hys.take _, hlen, fun q hq => hyc q (List.mem_of_mem_take hq)⟩
          rw [hv]
          cases A with
          | none =>
            have := hA rfl
            subst this
            have hd0 : d = 0 := by omega
            subst hd0
            simp [run_firstCells_none]
          | some A =>
            refine run_firstCells_some w z d A k cap _ hlen fun j q hj => ?_
            rw [List.getElem?_take] at hj
            split at hj
            · rename_i hlt
              have hk0 : 0 < k := by
                rcases Nat.eq_zero_or_pos d with h0 | h0
                · subst h0; simp at hlt
                · omega
              obtain ⟨b, o', hAe, hcl⟩ := hcell hk0
              cases hAe
              rw [addr_add]
              exact hcl j q hj
            · cases hj
        · have e1 : (⟨t'.toArray⟩ : ByteArray).size = t'.length := by simp [ByteArray.size]
          refine ⟨(t'.take d).map fun b => Value.int .u8 b.toNat, by rw [hv]; simp only [Builtin.lenOf, e1]; rfl, ?_, ?_, by simp; omega, fun q hq => ?_⟩
          · rw [hv]
            simp only [Builtin.firstCells, Sem.run_pure]
            congr 1
            apply Array.ext'
            simp [ByteArray.data_extract, List.extract_eq_take_drop]
          · rw [Nat.mul_one, ← List.map_take]; exact byteV_reps g _
          · obtain ⟨_, _, rfl⟩ := List.mem_map.1 hq; trivial
      split
      · rename_i id off n hD
        have hDr := v_opd h.env hD
        simp only [Rep] at hDr
        obtain ⟨hid, A', cap, hv', hcap, hAd, hpe⟩ := hDr
        unfold St.copyTo
        split
        · rename_i uu zz cs hob
          split
          · rename_i cs' hwr
            obtain ⟨hfit, rfl⟩ := wr_some hwr
            rw [takeR_eq] at hfit ⊢
            obtain ⟨_, p, hpp, hesz, arr, fr, hbk, hf, hs, hcl, hlen, hcells⟩ := h.inv.obj id _ hob
            obtain ⟨ys, hlo, hfc, hys, hyl, hyc⟩ := src (Nat.min k n) (Nat.min_le_left _ _)
            have hxl := hys.length
            rcases Nat.eq_zero_or_pos (Nat.min k n) with h0 | h0
            · -- nothing goes over
              rw [h0] at hyl hys hfc
              have hys0 : ys = [] := by simpa using hyl
              subst hys0
              have hr : (Builtin.copy_ #[t, u] o.type #[a.eval x, a.eval y]).run P w = .ok (goInt (Nat.min k n)) w := by
                simp [Builtin.copy_, run_underlying hu, hv', hlo, h0, run_sizeOf' hn, hfc, storeCells, Result.andThen_ok]
              have hnil : cs.take off ++ (xs.take (Nat.min k n * z) ++ cs.drop (off + (xs.take (Nat.min k n * z)).length)) = cs := by
                rw [h0]; simp
              rw [hnil]
              obtain ⟨hin, st⟩ := upd_inv (w1 := w) (X := .cells arr uu fr) (ob := .cells uu zz cs) h.inv hpp (by
                apply Array.ext_getElem?
                intro q
                by_cases hq : q = p.blk
                · subst hq
                  have := (Array.getElem?_eq_some_iff.1 hbk).1
                  simp [this]
                  exact (Array.getElem?_eq_some_iff.1 hbk).2
                · rw [Array.getElem?_setIfInBounds_ne (Ne.symm hq)]) ⟨hesz, arr, fr, hbk, hf, hs, hcl, hlen, hcells⟩ rfl rfl rfl
              exact Acts.of_value (run hr) (h.go st hin) (by show Rep _ _ _; simp only [lenV, Rep]; rfl)
            · obtain ⟨b, q, rfl, hq⟩ := hAd (Nat.lt_of_lt_of_le h0 (Nat.le_trans (Nat.min_le_right k n) hcap))
              obtain ⟨rfl, rfl⟩ := hq p hpp
              have hyl2 : (xs.take (Nat.min k n * z)).length = ys.length := hxl.symm
              rw [hyl2] at hfit ⊢
              have hst := run_storeCells_cells (P := P) p.blk (p.base + off) ys 0 w (fun j hj => by
                  rw [cell_arr hbk, Nat.add_zero]
                  have : p.base + off + j < arr.size := by omega
                  simp [this]) (fun j hj => soft_frozen hbk hf (by omega)) (fun y hy => one_of_cellV (hyc y hy))
              rw [Nat.add_zero, setCells_heap p.blk uu fr ys (p.base + off) arr w hbk (by omega)] at hst
              have hr : (Builtin.copy_ #[t, u] o.type #[a.eval x, a.eval y]).run P w = .ok (goInt (Nat.min k n)) (w.setRow p.blk (arr.toList.take (p.base + off) ++ (ys ++ arr.toList.drop (p.base + off + ys.length))).toArray) := by
                simp only [Builtin.copy_, hv', Sem.run_bind]
                simp [run_underlying hu, hlo, run_sizeOf' hn, hfc, hst, Result.andThen_ok]
              have hsz := size_wr (arr := arr) (m := p.base + off) (vs := ys) (by omega)
              have hat := cellsAt_wr (off := off) hcells hys rfl (by omega) (by omega)
              have hcv2 : ∀ y ∈ (arr.toList.take (p.base + off) ++ (ys ++ arr.toList.drop (p.base + off + ys.length))).toArray.toList, cellV y := cellV_wr hcl hyc
              rw [hyl2] at hat
              generalize (arr.toList.take (p.base + off) ++ (ys ++ arr.toList.drop (p.base + off + ys.length))).toArray = arr' at hr hsz hat hcv2
              obtain ⟨hin, st⟩ := upd_inv (w1 := w.setRow p.blk arr') (ob := .cells uu zz (cs.take off ++ (xs.take (Nat.min k n * z) ++ cs.drop (off + ys.length)))) h.inv hpp (setRow_eq hbk)
                ⟨hesz, arr', fr, setRow_heap w p.blk arr _ uu fr hbk, soft_size hf hsz, hsz.trans hs, hcv2, by rw [List.length_append, List.length_append, List.length_take, List.length_drop, hyl2, Nat.min_eq_left (by omega)]; omega, hat⟩ rfl rfl rfl
              exact Acts.of_value (run hr) (h.go st hin) (by show Rep _ _ _; simp only [lenV, Rep]; rfl)
          · exact Acts.none
        · exact Acts.none
      · rename_i hD
        have hDr := v_opd h.env hD
        simp only [Rep] at hDr
        obtain ⟨ys, hlo, hfc, hys, hyl, hyc⟩ := src 0 (Nat.zero_le _)
        have hys0 : ys = [] := by simpa using hyl
        subst hys0
        have hr : (Builtin.copy_ #[t, u] o.type #[a.eval x, a.eval y]).run P w = .ok (goInt (Nat.min k 0)) w := by
          simp only [Builtin.copy_, hDr, Sem.run_bind]
          simp [run_underlying hu, hlo, run_sizeOf' hn, hfc, Result.andThen_ok]
        exact Acts.of_value (run hr) h (by show Rep _ _ _; simp [lenV, Rep, goInt])
      · exact Acts.none
    · exact Acts.none
  · exact Acts.none

/-! ### maps that change -/
/-- Where a key lies, and what stands for the map that is behind. -/
theorem mapPut_ok {x xv : V} {u vv : Value} {d : TypeDesc} {str : Bool} (hk : keyO str (some x) = some x) (hd : if str then d = .string else ∃ k, d = .int k) (hx : Rep g x u) (hv : Rep g xv vv) :
    ∀ {es es' : List (V × V)} {l : List MapEntry} (i : Nat) (clk : Nat), MapsAt g es l → mapPut x xv es = some es' →
      (Instr.findNow d u l i = some none ∧ MapsAt g es' (l ++ [{ key := u, val := vv, born := clk }])) ∨
      ∃ j v, Instr.findNow d u l i = some (some (i + j, v)) ∧ j < l.length ∧ (∃ e, l[j]? = some e ∧ Rep g x e.key) ∧ ∀ k, Rep g x k → MapsAt g es' (l.modify j fun e => { e with key := k, val := vv })
  | _, es', _, i, clk, .nil, h => by
    cases h
    exact .inl ⟨rfl, .cons hx hv .nil⟩
  | _, es', _, i, clk, .cons (k := k') (x := y) (r := r) (e := e) (q := q) hk' hx' hm, h => by
    simp only [mapPut] at h
    split at h
    · rename_i hb
      cases h
      have hs := eqV_ok hk hd hx hk' hb
      refine .inr ⟨0, e.val, by simp only [Instr.findNow, hs, Nat.add_zero], by simp, ⟨e, rfl, ?_⟩, fun k hkr => ?_⟩
      · have hkk : x = k' := by
          unfold eqV at hb
          split at hb
          · obtain ⟨h1, h2⟩ := gd_some hb
            have h1 := (eqK_eq _ _).1 h1
            rw [eqI_eq] at h2
            simp at h2
            rw [h1, h2]
          · rw [eqB_eq] at hb
            simp at hb
            rw [hb]
          · cases hb
        rw [hkk]; exact hk'
      · show MapsAt g ((x, xv) :: r) _
        rw [List.modify_zero_cons]
        exact .cons hkr hv hm
    · rename_i hb
      have hs := eqV_ok hk hd hx hk' hb
      split at h
      · rename_i l' hl'
        cases h
        rcases mapPut_ok hk hd hx hv (i + 1) clk hm hl' with ⟨h1, h2⟩ | ⟨j, v, h1, h2, ⟨e', h3, h4⟩, h5⟩
        · exact .inl ⟨by simp only [Instr.findNow, hs, h1], .cons hk' hx' h2⟩
        · refine .inr ⟨j + 1, v, by simp only [Instr.findNow, hs, h1]; congr 3; omega, by simpa using h2, ⟨e', by simpa using h3, h4⟩, fun k hkr => ?_⟩
          rw [List.modify_succ_cons]
          exact .cons hk' hx' (h5 k hkr)
      · cases h
    · cases h

theorem same_key {x : V} {u v : Value} {str : Bool} (hk : keyO str (some x) = some x) (hu : Rep g x u) (hv : Rep g x v) : u = v := by
  unfold keyO at hk
  split at hk
  · rename_i k n heq
    cases heq
    simp only [Rep] at hu hv
    rw [hu, hv]
  · rename_i b heq
    cases heq
    simp only [Rep] at hu hv
    rw [hu, hv]
  · cases hk

theorem keyStays {x : V} {u : Value} {str : Bool} (hk : keyO str (some x) = some x) (hu : Rep g x u) : (Instr.keyThatStays u u).run P w = .ok u w := by
  have : Instr.sameBits 10000 u u = true := by
    rcases key_leaf hk hu with ⟨k, n, rfl⟩ | ⟨z, rfl⟩
    · simp [Instr.sameBits]
    · show (z == z) = true
      cases z with
      | mk d =>
        show (d == d) = true
        simp
  simp [Instr.keyThatStays, this, Sem.run_pure]

theorem mapset_ok (h : Sim rc nt w0 g0 w g bx s a) {t e : TypeId} {b : Bool} {m k x : Operand} (hm : mapP P t = some (b, e)) (ho : o.op = .mapUpdate t m k x ∨ o.op = .insert t m k x) :
    Acts P rc nt w0 g0 w bx a o (evMapset b (opd m) (opd k) (opd x) s) := by
  obtain ⟨kt, d, ht, hd, hbd⟩ := map_of hm
  unfold evMapset
  split
  · rename_i id hM
    split
    · rename_i kv hkv
      obtain ⟨hkv, hkk⟩ := keyO_some hkv
      have hkr := v_opd h.env hkv
      split
      · rename_i xv hxv
        have hxr := v_opd h.env hxv
        split
        · rename_i es hob
          have hMr := v_opd h.env hM
          simp only [Rep] at hMr
          obtain ⟨_, r, hv, hp⟩ := hMr
          obtain ⟨_, p, hpp, ents, clk, hb, hms⟩ := h.inv.obj id _ hob
          have := hp p hpp
          subst this
          unfold St.mapTo
          split
          · rename_i es' hput
            have fin : ∀ X, (Instr.mapUpdate t (a.eval m) (a.eval k) (a.eval x)).run P w = .ok () { w with heap := w.heap.setIfInBounds p.blk X } → ObjAt { w with heap := w.heap.setIfInBounds p.blk X } g p (.map es') →
                Acts P rc nt w0 g0 w bx a o (some (.v (.tup []), s.heap (hset s.hp id (.map es')))) := by
              intro X hr hat
              obtain ⟨hin, st⟩ := upd_inv (w1 := { w with heap := w.heap.setIfInBounds p.blk X }) h.inv hpp rfl hat rfl rfl rfl
              refine Acts.of_skip ?_ (h.go st hin)
              rcases ho with ho | ho <;> simp only [execOp, ho, Sem.run_bind, hr, Result.andThen_ok, Sem.run_pure]
            have hlt := (Array.getElem?_eq_some_iff.1 hb).1
            have hat : ∀ (ents' : Array MapEntry) clk', MapsAt g es' ents'.toList → ObjAt { w with heap := w.heap.setIfInBounds p.blk (.map ents' clk') } g p (.map es') := fun ents' clk' hm' =>
              ⟨ents', clk', by show (w.heap.setIfInBounds p.blk _)[p.blk]? = _; simp [hlt], hm'⟩
            rcases mapPut_ok hkk hbd hkr hxr 0 clk hms hput with ⟨h1, h2⟩ | ⟨j, v, h1, h2, ⟨e', h3, h4⟩, h5⟩
            · refine fin (.map (ents.push { key := a.eval k, val := a.eval x, born := clk }) (clk + 1)) ?_ (hat _ _ (by simpa using h2))
              simp only [Instr.mapUpdate, Sem.run_bind, run_underlying ht, Result.andThen_ok, hv, MapKept.run_getObj_map hb, checkKey_ok hd hbd, MapKept.run_findKey hd h1, MapKept.run_setObj_map _ hb]
            · rw [Nat.zero_add] at h1
              have hent : ents[j]? = some e' := by rw [← Array.getElem?_toList]; exact h3
              have hsame : e'.key = a.eval k := same_key hkk h4 hkr
              have h6 := h5 (a.eval k) hkr
              refine fin (.map (ents.modify j fun e => { e with key := a.eval k, val := a.eval x }) clk) ?_ (hat _ _ (by rw [Array.toList_modify]; exact h6))
              simp only [Instr.mapUpdate, Sem.run_bind, run_underlying ht, Result.andThen_ok, hv, MapKept.run_getObj_map hb, checkKey_ok hd hbd, MapKept.run_findKey hd h1, hent, Option.map_some, Option.getD_some, hsame, keyStays hkk hkr, MapKept.run_setObj_map _ hb]
          · exact Acts.none
        · exact Acts.none
      · exact Acts.none
    · exact Acts.none
  · exact Acts.none

theorem mapDel_ok {x : V} {u : Value} {d : TypeDesc} {str : Bool} (hk : keyO str (some x) = some x) (hd : if str then d = .string else ∃ k, d = .int k) (hx : Rep g x u) :
    ∀ {es es' : List (V × V)} {l : List MapEntry} (i : Nat), MapsAt g es l → mapDel x es = some es' →
      (Instr.findNow d u l i = some none ∧ MapsAt g es' l) ∨ ∃ j v, Instr.findNow d u l i = some (some (i + j, v)) ∧ j < l.length ∧ MapsAt g es' (l.eraseIdx j)
  | _, es', _, i, .nil, h => by
    cases h
    exact .inl ⟨rfl, .nil⟩
  | _, es', _, i, .cons (k := k') (x := y) (r := r) (e := e) (q := q) hk' hx' hm, h => by
    simp only [mapDel] at h
    split at h
    · rename_i hb
      cases h
      have hs := eqV_ok hk hd hx hk' hb
      exact .inr ⟨0, e.val, by simp only [Instr.findNow, hs, Nat.add_zero], by simp, by simpa using hm⟩
    · rename_i hb
      have hs := eqV_ok hk hd hx hk' hb
      split at h
      · rename_i l' hl'
        cases h
        rcases mapDel_ok hk hd hx (i + 1) hm hl' with ⟨h1, h2⟩ | ⟨j, v, h1, h2, h3⟩
        · exact .inl ⟨by simp only [Instr.findNow, hs, h1], .cons hk' hx' h2⟩
        · refine .inr ⟨j + 1, v, by simp only [Instr.findNow, hs, h1]; congr 3; omega, by simpa using h2, ?_⟩
          rw [List.eraseIdx_cons_succ]
          exact .cons hk' hx' h3
      · cases h
    · cases h

theorem delete_ok (h : Sim rc nt w0 g0 w g bx s a) {t u e : TypeId} {b : Bool} {c : Call} {m k : Operand} (hm : mapP P t = some (b, e)) (ho : o.op = .call c) (hc : c.callee = .builtin .delete)
    (ha : c.args.toList = [m, k]) (hts : c.argTypes.toList = [t, u]) : Acts P rc nt w0 g0 w bx a o (evDelete b (opd m) (opd k) s) := by
  obtain ⟨kt, d, ht, hd, hbd⟩ := map_of hm
  have run : ∀ {v : Value} {w1 : World}, (Builtin.delete_ #[t, u] o.type #[a.eval m, a.eval k]).run P w = .ok v w1 → (execOp a.eval o).run P w = .ok (.value v) w1 := fun hr =>
    call2_run (fun _ _ _ _ => rfl) ho hc ha hts hr
  unfold evDelete
  split
  · rename_i id hM
    split
    · rename_i kv hkv
      obtain ⟨hkv, hkk⟩ := keyO_some hkv
      have hkr := v_opd h.env hkv
      split
      · rename_i es hob
        have hMr := v_opd h.env hM
        simp only [Rep] at hMr
        obtain ⟨_, r, hv, hp⟩ := hMr
        obtain ⟨_, p, hpp, ents, clk, hb, hms⟩ := h.inv.obj id _ hob
        have := hp p hpp
        subst this
        unfold St.mapTo
        split
        · rename_i es' hput
          have hlt := (Array.getElem?_eq_some_iff.1 hb).1
          have fin : ∀ (ents' : Array MapEntry), (Builtin.delete_ #[t, u] o.type #[a.eval m, a.eval k]).run P w = .ok (.tuple #[]) { w with heap := w.heap.setIfInBounds p.blk (.map ents' clk) } → MapsAt g es' ents'.toList →
              Acts P rc nt w0 g0 w bx a o (some (.v (.tup []), s.heap (hset s.hp id (.map es')))) := by
            intro ents' hr hm'
            obtain ⟨hin, st⟩ := upd_inv (w1 := { w with heap := w.heap.setIfInBounds p.blk (.map ents' clk) }) (ob := .map es') h.inv hpp rfl ⟨ents', clk, by show (w.heap.setIfInBounds p.blk _)[p.blk]? = _; simp [hlt], hm'⟩ rfl rfl rfl
            exact Acts.of_value (run hr) (h.go st hin) (by show Rep _ _ _; simp only [Rep, Reps]; exact ⟨_, rfl, rfl⟩)
          rcases mapDel_ok hkk hbd hkr 0 hms hput with ⟨h1, h2⟩ | ⟨j, v, h1, h2, h3⟩
          · refine fin ents ?_ h2
            simp [Builtin.delete_, run_underlying ht, hv, MapKept.run_getObj_map hb, checkKey_ok hd hbd, MapKept.run_findKey hd h1, MapKept.run_setObj_map _ hb, Result.andThen_ok]
          · rw [Nat.zero_add] at h1
            have hj : j < ents.size := by simpa using h2
            refine fin (ents.eraseIdxIfInBounds j) ?_ (by simp [Array.eraseIdxIfInBounds, hj]; exact h3)
            simp [Builtin.delete_, run_underlying ht, hv, MapKept.run_getObj_map hb, checkKey_ok hd hbd, MapKept.run_findKey hd h1, MapKept.run_setObj_map _ hb, Result.andThen_ok]
        · exact Acts.none
      · exact Acts.none
    · exact Acts.none
  · exact Acts.none
end
end Go.Air
