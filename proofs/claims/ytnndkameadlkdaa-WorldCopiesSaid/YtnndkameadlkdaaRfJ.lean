/- The walk of the reference's New. -/
import Derived.Test.YtnndkameadlkdaaRfI
namespace Go.Proofs.Ytnndkameadlkdaa
open Go.RowKit

theorem run_op_makeSlice {P : Program} {w w' : World} {a : Act} {o : Oper} {x y : Operand} {t : TypeId} {v : Value} (ho : o.op = .makeSlice t x y) (hrun : (Instr.makeSlice t (a.eval x) (a.eval y)).run P w = .ok v w') : (execOp a.eval o).run P w = .ok (.value v) w' := by
  simp [execOp, ho, hrun, Result.andThen]
theorem run_make272 (w : World) : (Instr.makeSlice 22 (.int .i64 272) (.int .i64 272)).run Try.prog w = .ok (.slice (some ⟨w.heap.size, 0, none⟩) 272 272) (w.alloc (.cells (bys zeros272).toArray 5)) := by kernel_rfl

def n56 (g k c : Nat) (A : Option Addr) : Array Value := #[.int .i64 4, .slice A k c, .slice (some ⟨g, 0, none⟩) 2 2, .int .u64 0, .slice none 0 0, .int .i64 0, .bool false, .int .i64 0, .bool false, .slice none 0 0]

set_option maxRecDepth 100000 in
set_option maxHeartbeats 2000000 in
theorem rnew_walk (N : Nat → Prop) (w : World) (hN : ∀ k, N k → k < w.heap.size) : Calls Try.prog 28 #[.int .i64 4] w fun e w' => ∃ v', e = .returned v' ∧ RefT N w' v' (WS.new 4) 0 ∧ Evo (fun _ => False) w w' := by
  obtain ⟨i22, hi22, hz22, hs22, hb22⟩ := info_parts Try.info22
  go_enter Try.func28, Try.ntmps28
  go_wp2
  go_loopg [4] 8 (fun g j wx => ∃ k : Nat, k ≤ 8 ∧ g = 8 - k ∧ j = .int .i64 k ∧ ∃ (A : Option Addr) (c : Nat) (vs : List Value), wx.ownsRow (w.heap.size + 3) 22 1 (.slice A k c) k vs ∧ (∀ u ∈ vs, ∃ g, u = .slice (some ⟨g, 0, none⟩) 272 272 ∧ w.heap.size ≤ g ∧ wx.heap[g]? = some (.cells (bys zeros272).toArray 5 (0, 0))) ∧ Evo (fun _ => False) w wx ∧
    wx.heap[w.heap.size]? = some (.cells z56 56 (0, 0)) ∧ wx.heap[w.heap.size + 1]? = some (.cells #[.slice none 0 0, .slice none 0 0] 22 (0, 0)) ∧ wx.heap[w.heap.size + 2]? = some (.cells (n56 (w.heap.size + 1) k c A) 56 (0, 0)))
  case atStart =>
    refine ⟨0, by omega, rfl, rfl, none, 0, [], World.ownsRow_nil _ _ _ _, fun u hu => (by cases hu), (((Evo.refl _ w).alloc _).alloc _).alloc _, ?_, ?_, ?_⟩
    · rw [Below.heap_alloc _ _ _ (by simp; omega), Below.heap_alloc _ _ _ (by simp)]; exact heap_alloc_new _ _
    · rw [Below.heap_alloc _ _ _ (by simp)]
      have := heap_alloc_new (w.alloc (.cells z56 56)) (.cells #[.slice none 0 0, .slice none 0 0] 22)
      rw [World.size_alloc] at this
      exact this
    · have := heap_alloc_new ((w.alloc (.cells z56 56)).alloc (.cells #[.slice none 0 0, .slice none 0 0] 22)) (.cells (n56 (w.heap.size + 1) 0 0 none) 56)
      rw [World.size_alloc, World.size_alloc] at this
      exact this
  case round =>
    obtain ⟨k, hk, rfl, rfl, A, c, vs, hown, hvs, hev, b0, b1, b2⟩ := hrel
    have c0 : wr.cell? ⟨w.heap.size + 2, 0, none⟩ = some (.int .i64 4) := blk_cell b2 0
    have c1 : wr.cell? ⟨w.heap.size + 2, 1, none⟩ = some (.slice A k c) := blk_cell b2 1
    by_cases hk8 : k < 8
    · have hkz : (k : Int) < 8 := by omega
      obtain ⟨W3, hW3⟩ : ∃ W, W = (wr.drew.alloc (.cells (bys zeros272).toArray 5)).alloc (.cells #[.slice (some ⟨wr.heap.size, 0, none⟩) 272 272] 22) := ⟨_, rfl⟩
      have hsz := heap_lt b2
      have e03 : Evo (fun _ => False) wr W3 := by rw [hW3]; exact ((Evo.refl _ wr).drew.alloc _).alloc _
      obtain ⟨v4, w4, hr4, ho4, hg4, _⟩ := run_append_src (P := Try.prog) W3 (w.heap.size + 3) 53 53 22 i22 _ 1 24 Try.underlying53 hi22 hz22 hs22 hb22 rfl (by omega) (.slice A k c) k vs (by rw [hW3]; exact (World.ownsRow.alloc (w := wr.drew.alloc (.cells (bys zeros272).toArray 5)) (World.ownsRow.alloc (w := wr.drew) hown _) _)) (.slice (some ⟨wr.heap.size + 1, 0, none⟩) 1 1) 1 [.slice (some ⟨wr.heap.size, 0, none⟩) 272 272]
        (by
          have := Src.laid (wr.drew.alloc (.cells (bys zeros272).toArray 5)) 22 [.slice (some ⟨wr.heap.size, 0, none⟩) 272 272] 1 1 rfl
          rw [World.size_alloc] at this
          rw [hW3]
          exact this) (by simp [Value.oneCell']) (by simp only [maxLen]; omega) (by omega) (by have := e03.size; omega)
      have e34 : Evo (fun g => w.heap.size + 3 ≤ g) W3 w4 := (Evo.refl _ W3).grown hg4 (fun g hg => .inl (hown.lt g hg).1)
      have e04 : Evo (fun g => w.heap.size + 3 ≤ g) wr w4 := (e03.mono (F' := fun g => w.heap.size + 3 ≤ g) (fun _ hf => hf.elim)).trans e34 (fun g hg => .inl hg)
      have S5 : SameKind 5 wr w4 := by
        have h1 : SameKind 5 wr W3 := by rw [hW3]; exact ((SameKind.refl 5 wr).drew.alloc _).alloc _
        refine h1.trans ((SameKind.refl 5 W3).grown hg4 (e' := 22) (fun g hg => ?_) (by decide))
        obtain ⟨cc, ff, hcc⟩ := ownsRow_kind hown g hg
        exact ⟨cc, ff, (e03.block g (heap_lt hcc) (fun hf => hf)).trans hcc⟩
      have bn : w4.heap[wr.heap.size]? = some (.cells (bys zeros272).toArray 5 (0, 0)) := by
        have h1 : W3.heap[wr.heap.size]? = some (.cells (bys zeros272).toArray 5 (0, 0)) := by
          rw [hW3, Below.heap_alloc _ _ _ (by simp)]
          exact heap_alloc_new wr.drew _
        have h2 : SameKind 5 W3 w4 := (SameKind.refl 5 W3).grown hg4 (e' := 22) (fun g hg => by
          obtain ⟨cc, ff, hcc⟩ := ownsRow_kind hown g hg
          exact ⟨cc, ff, (e03.block g (heap_lt hcc) (fun hf => hf)).trans hcc⟩) (by decide)
        exact h2 _ _ _ h1
      obtain ⟨A4, c4, rfl, _⟩ := ownsRow_slice ho4
      have d0 := (e04.block _ (heap_lt b0) (fun hf => by have hf : w.heap.size + 3 ≤ w.heap.size := hf; omega)).trans b0
      have d1 := (e04.block _ (heap_lt b1) (fun hf => by have hf : w.heap.size + 3 ≤ w.heap.size + 1 := hf; omega)).trans b1
      have d2 := (e04.block _ (heap_lt b2) (fun hf => by have hf : w.heap.size + 3 ≤ w.heap.size + 2 := hf; omega)).trans b2
      have k1 : w4.cell? ⟨w.heap.size + 2, 1, none⟩ = some (.slice A k c) := blk_cell d2 1
      have f1 : w4.frozen? ⟨w.heap.size + 2, 1, none⟩ = false := blk_frozen d2 1
      have g2 := blk_set d2 1 (.slice A4 (k + 1) c4)
      have e45 : Evo (fun g => g = w.heap.size + 2) w4 (w4.setCell ⟨w.heap.size + 2, 1, none⟩ (.slice A4 (k + 1) c4)) := (Evo.refl (fun g => g = w.heap.size + 2) w4).setCell (p := ⟨w.heap.size + 2, 1, none⟩) (.inl rfl) _
      have g0 := (e45.block _ (heap_lt d0) (fun hf => by have hf : w.heap.size = w.heap.size + 2 := hf; omega)).trans d0
      have g1 := (e45.block _ (heap_lt d1) (fun hf => by have hf : w.heap.size + 1 = w.heap.size + 2 := hf; omega)).trans d1
      have go : (w4.setCell ⟨w.heap.size + 2, 1, none⟩ (.slice A4 (k + 1) c4)).ownsRow (w.heap.size + 3) 22 1 (.slice A4 (k + 1) c4) (k + 1) (vs ++ [.slice (some ⟨wr.heap.size, 0, none⟩) 272 272]) := ownsRow_evo ho4 e45 (fun g hg hf => by
        have := (ho4.lt g hg).1
        have hf : g = w.heap.size + 2 := hf
        omega)
      have S5' : SameKind 5 w4 (w4.setCell ⟨w.heap.size + 2, 1, none⟩ (.slice A4 (k + 1) c4)) := (SameKind.refl 5 w4).setCell (p := ⟨w.heap.size + 2, 1, none⟩) d2 (by decide) _
      have gvs : ∀ u ∈ vs ++ [Value.slice (some ⟨wr.heap.size, 0, none⟩) 272 272], ∃ g, u = .slice (some ⟨g, 0, none⟩) 272 272 ∧ w.heap.size ≤ g ∧ (w4.setCell ⟨w.heap.size + 2, 1, none⟩ (.slice A4 (k + 1) c4)).heap[g]? = some (.cells (bys zeros272).toArray 5 (0, 0)) := by
        intro u hu
        rcases List.mem_append.1 hu with hu | hu
        · obtain ⟨g, e, hgw, hg⟩ := hvs u hu
          exact ⟨g, e, hgw, S5' _ _ _ (S5 _ _ _ hg)⟩
        · obtain rfl := List.mem_singleton.1 hu
          exact ⟨_, rfl, hev.size, S5' _ _ _ bn⟩
      have ef : Evo (fun _ => False) w (w4.setCell ⟨w.heap.size + 2, 1, none⟩ (.slice A4 (k + 1) c4)) := (hev.trans e04 (fun g hg => .inr (by have : w.heap.size + 3 ≤ g := hg; omega))).trans e45 (fun g hg => .inr (by have : g = w.heap.size + 2 := hg; omega))
      rw [hW3] at hr4
      have k13 : (wr.drew.alloc (.cells (bys zeros272).toArray 5)).cell? ⟨w.heap.size + 2, 1, none⟩ = some (.slice A k c) := (World.cell?_alloc_lt wr.drew _ _ hsz).trans c1
      have k14 : ((wr.drew.alloc (.cells (bys zeros272).toArray 5)).alloc (.cells #[.slice (some ⟨wr.heap.size, 0, none⟩) 272 272] 22)).cell? ⟨w.heap.size + 2, 1, none⟩ = some (.slice A k c) := (World.cell?_alloc_lt _ _ _ (by simp; omega)).trans k13
      have Hr4 := Lib.hid hr4
      clear hr4 hg4 ho4 e34 e04 S5 S5' bn d0 d1 d2 e45 hW3 e03 hown hvs
      go_wp2
      refine wp_region_seq_drop (fun w' => w'.cell? ⟨w.heap.size + 2, 1, none⟩ = some (.slice A k c)) [0, 1, 5] [0, 1, 2, 3, 4, 5] 6 (by kernel_rfl) rfl (by kernel_rfl) (by kernel_rfl) (by kernel_rfl) rfl (by kernel_rfl) (fun _ _ _ _ _ h => h) (c1) ?_
      dsimp only [List.dropLast]
      repeat
        apply seq_read (by rfl)
        · (simp only [List.getElem?_toArray, List.getElem?_cons_succ, List.getElem?_cons_zero]; rfl)
        · rfl
        · (intro w' hSw; (first | subst hSw | (try dsimp only at hSw)); go_simp; (try go_bits); (try with_reducible rfl))
        simp only [Act.put, List.setIfInBounds_toArray, List.set_cons_zero, List.set_cons_succ]
      apply seq_act (by rfl)
      · (simp only [List.getElem?_toArray, List.getElem?_cons_succ, List.getElem?_cons_zero]; rfl)
      · rfl
      refine wp_val (run_op_makeSlice rfl (run_make272 wr.drew)) ⟨k13, ?_⟩
      try simp only [Act.put, List.setIfInBounds_toArray, List.set_cons_zero, List.set_cons_succ]
      apply seq_act (by rfl)
      · (simp only [List.getElem?_toArray, List.getElem?_cons_succ, List.getElem?_cons_zero]; rfl)
      · rfl
      refine wp_k (fun K hK => ?_)
      go_simp
      refine hK _ _ ⟨k14, ?_⟩
      clear hK K
      try simp only [Act.put, List.setIfInBounds_toArray, List.set_cons_zero, List.set_cons_succ]
      apply seq_act (by rfl)
      · (simp only [List.getElem?_toArray, List.getElem?_cons_succ, List.getElem?_cons_zero]; rfl)
      · rfl
      refine wp_val (run_op_append rfl Hr4.out) ⟨k1, ?_⟩
      try simp only [Act.put, List.setIfInBounds_toArray, List.set_cons_zero, List.set_cons_succ]
      repeat
        apply seq_read (by rfl)
        · (simp only [List.getElem?_toArray, List.getElem?_cons_succ, List.getElem?_cons_zero]; rfl)
        · rfl
        · (intro w' hSw; (first | subst hSw | (try dsimp only at hSw)); go_simp; (try go_bits); (try with_reducible rfl))
        simp only [Act.put, List.setIfInBounds_toArray, List.set_cons_zero, List.set_cons_succ]
      refine seq_nil ?_
      apply last_act
      · (simp only [List.getElem?_toArray, List.getElem?_cons_succ, List.getElem?_cons_zero]; rfl)
      · rfl
      refine wp_k (fun K hK => ?_)
      go_simp
      refine hK _ _ ?_
      clear hK K
      try simp only [Act.put, List.setIfInBounds_toArray, List.set_cons_zero, List.set_cons_succ]
      go_wp2
      go_roundg (8 - (k + 1))
      case measure => omega
      case rel => exact ⟨k + 1, by omega, rfl, by first | rfl | simp, A4, c4, _, go, gvs, ef, g0, g1, g2⟩
    · obtain rfl : k = 8 := by omega
      have hld := load56 _ _ _ b2 rfl
      obtain ⟨w6, hst, hg6, ev6⟩ := store56 wr _ _ (n56 (w.heap.size + 1) 8 c A) b0 rfl rfl (by simp [n56, Value.oneCell'])
      have hc6 := blk_cell hg6
      have ew6 : Evo (fun _ => False) w w6 := hev.trans ev6 (fun g hg => .inr (by have : g = w.heap.size := hg; omega))
      have hSf : RefT N w6 (.agg (n56 (w.heap.size + 1) 8 c A)) (WS.new 4) 0 := by
        refine ⟨A, some ⟨w.heap.size + 1, 0, none⟩, none, none, c, 2, 0, 0, List.replicate 8 zeros272, [], rfl, ⟨?_, by simp, ?_, ?_, ?_, fun m => rfl, ?_, rfl, ?_, ?_, fun ad e => (by cases e), fun ad e => (by cases e)⟩, by simp⟩
        · have hl := hown.1
          refine ⟨vs, by simpa using hl, ⟨?_, fun _ ad c' e hf => ?_⟩, fun i x u hx hu => ?_⟩
          · have := Src.of_own (ownsRow_evo hown ev6 (fun g hg hf => by
              have := (hown.lt g hg).1
              have hf : g = w.heap.size := hf
              omega))
            simpa using this
          · have e' : A = some ad := by injection e
            have h1 := (hown.lt ad.block (by rw [e']; rfl)).1
            have := hN _ hf
            omega
          · obtain ⟨g, rfl, hgw, hg⟩ := hvs u (List.mem_of_getElem? hu)
            have hxz : x = zeros272 := List.eq_of_mem_replicate (List.mem_of_getElem? hx)
            subst hxz
            have hg' : w6.heap[g]? = some (.cells (bys zeros272).toArray 5 (0, 0)) := (ev6.block g (heap_lt hg) (fun hf => by
              have hf : g = w.heap.size := hf
              rw [hf, b0] at hg
              cases hg)).trans hg
            refine ⟨⟨some ⟨g, 0, none⟩, 272, by rw [zeros_len], Nat.le_of_eq zeros_len, by rw [bys_length, Nat.mul_one], fun j y hy => ⟨_, rfl, ?_⟩⟩, fun _ ad c' e hf => ?_⟩
            · rw [Addr.add_mid, Nat.zero_add, blk_cell hg' j]
              simpa using hy
            · have e' : some (⟨g, 0, none⟩ : Addr) = some ad := by injection e
              cases e'
              have := hN _ hf
              simp at this
              omega
        · intro a s h1 h2 h3
          rw [List.getElem?_replicate, if_pos (by omega)]
          rfl
        · have hg' := (ev6.block _ (heap_lt b1) (fun hf => by have hf : w.heap.size + 1 = w.heap.size := hf; omega)).trans b1
          refine ⟨[.slice none 0 0, .slice none 0 0], rfl, ⟨⟨some ⟨w.heap.size + 1, 0, none⟩, 2, rfl, by simp, rfl, fun j u hu => ⟨_, rfl, ?_⟩⟩, fun _ ad c' e hf => ?_⟩, fun i x u hx hu => ?_⟩
          · rw [Addr.add_mid, Nat.zero_add, blk_cell hg' j]
            simpa using hu
          · have e' : some (⟨w.heap.size + 1, 0, none⟩ : Addr) = some ad := by injection e
            cases e'
            have := hN _ hf
            simp at this
            omega
          · have hxe : x = [] := by
              have := List.mem_of_getElem? hx
              simp [WS.new] at this
              exact this
            have hue : u = .slice none 0 0 := by
              have := List.mem_of_getElem? hu
              simpa using this
            subst hxe hue
            exact SrcN.nil _ _
        · exact ⟨[], rfl, ⟨⟨none, 0, rfl, Nat.le_refl _, rfl, fun j u hu => (by cases hu)⟩, fun h => absurd h (by simp [lieCells, trCells, WS.new])⟩, fun i x u hx => (by cases hx)⟩
        · exact ⟨[], rfl, ⟨⟨none, 0, rfl, Nat.le_refl _, rfl, fun j u hu => (by cases hu)⟩, fun h => absurd h (by simp [lieCells, trCells, WS.new])⟩, fun i x u hx => (by simp [WS.new] at hx)⟩
        · intro ad e
          obtain ⟨cc, ff, hcc⟩ := ownsRow_kind hown ad.block (by rw [e]; rfl)
          refine KindN.evo ⟨⟨cc, ff, hcc⟩, fun hf => by have := hN _ hf; have := (hown.lt ad.block (by rw [e]; rfl)).1; omega⟩ ev6 (fun hf => ?_)
          have := (hown.lt ad.block (by rw [e]; rfl)).1
          have hf : ad.block = w.heap.size := hf
          omega
        · intro ad e
          cases e
          exact ⟨⟨_, _, (ev6.block _ (heap_lt b1) (fun hf => by have hf : w.heap.size + 1 = w.heap.size := hf; omega)).trans b1⟩, fun hf => by have := hN _ hf; simp at this; omega⟩
      have Hld := Lib.hid hld
      have Hst := Lib.hid hst
      have Hc6 := Lib.hid hc6
      have HSf := Lib.hid hSf
      clear hld hst hc6 hg6 hSf hvs hown
      go_wp2_with (first | (refine wpList_run rfl (run_op_load rfl Hld.out) ?_) | (refine wpList_void rfl (run_op_store rfl Hst.out) ?_))
      refine bodyPost_ret (v := .agg (n56 (w.heap.size + 1) 8 c A)) (by simp [results, Try.results28, go_sem, Hc6.out, n56]) rfl ⟨_, rfl, HSf.out, ew6⟩

end Go.Proofs.Ytnndkameadlkdaa
