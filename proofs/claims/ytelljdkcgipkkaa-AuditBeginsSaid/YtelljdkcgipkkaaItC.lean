/- The walk of audit.Minus. -/
import Derived.Test.YtelljdkcgipkkaaItB
namespace Go.Proofs.Ytelljdkcgipkkaa
open Go.RowKit

theorem evo_new {w w1 w2 : World} {m : Nat} (h : Evo (fun _ => False) w w1) (k : Evo (fun k => k = m) w1 w2) (hm : w.heap.size ≤ m) : Evo (fun _ => False) w w2 := h.trans k (fun x hx => .inr (by have : x = m := hx; omega))

theorem map_drop {xs : List ItD} {k : Nat} {x : ItD} (hx : xs[k]? = some x) : (xs.drop k).map ItD.key = x.key :: (xs.drop (k + 1)).map ItD.key := by
  have hk : k < xs.length := (List.getElem?_eq_some_iff.1 hx).1
  have ex : xs[k] = x := (List.getElem?_eq_some_iff.1 hx).2
  rw [List.drop_eq_getElem_cons hk, ex]
  rfl

theorem count_take {ys : List ItD} {k : Nat} {x : ItD} (hx : ys[k]? = some x) (key : IKey) : ((ys.take (k + 1)).map ItD.key).count key = if key = x.key then ((ys.take k).map ItD.key).count x.key + 1 else ((ys.take k).map ItD.key).count key := by
  have hk : k < ys.length := (List.getElem?_eq_some_iff.1 hx).1
  have ex : ys[k] = x := (List.getElem?_eq_some_iff.1 hx).2
  rw [List.take_succ_eq_append_getElem hk, ex, List.map_append, List.count_append]
  by_cases h : key = x.key
  · subst h; simp
  · have h' : ¬ x.key = key := fun e => h e.symm
    simp [h, h']

set_option maxRecDepth 100000 in
set_option maxHeartbeats 1000000 in
theorem minus_walk (w : World) (va vb : Value) (xs ys : List ItD) (ha : ItSrc w va xs) (hb : ItSrc w vb ys) (hx : xs.length ≤ 1000) (hy : ys.length ≤ 1000) :
    Calls Try.prog 6 #[va, vb] w fun e w' => ∃ v zs, e = .returned v ∧ Evo (fun _ => False) w w' ∧ ItSrc w' v zs ∧ zs.map ItD.key = minusL (xs.map ItD.key) (ys.map ItD.key) := by
  obtain ⟨i5, hi5, hz5, hs5, hb5⟩ := info_parts Try.info5
  obtain ⟨i26, hi26, hz26, hs26, hb26⟩ := info_parts Try.info26
  have hmm := @run_makeMap Try.prog
  obtain ⟨A, ca, rfl, hca⟩ := ha.form
  obtain ⟨B, cb, rfl, hcb⟩ := hb.form
  obtain ⟨m, hm⟩ : ∃ m, w.heap.size = m := ⟨_, rfl⟩
  have hev0 : Evo (fun _ => False) w (w.alloc (.map #[] 0)) := (Evo.refl _ w).alloc _
  have hC0 : Counts (w.alloc (.map #[] 0)) m (fun k => ((ys.take 0).map ItD.key).count k) := ⟨fun _ => none, by rw [← hm]; exact IsMap.empty w ItemKey, fun _ _ _ => rfl⟩
  go_enter Try.func6, Try.ntmps6
  go_wp2
  go_loopg [15, 7] ys.length (fun g j p wx => ∃ k : Nat, k ≤ ys.length ∧ g = ys.length - k ∧ j = .int .i64 k ∧ Counts wx m (fun key => ((ys.take k).map ItD.key).count key) ∧ Evo (fun _ => False) w wx)
  case atStart => exact ⟨0, by omega, rfl, rfl, hC0, hev0⟩
  case round =>
    obtain ⟨k, hk, rfl, rfl, hC, hev⟩ := hrel
    clear hC0 hev0
    by_cases hkl : k < ys.length
    · have hkz : (k : Int) < (ys.length : Int) := by omega
      obtain ⟨x, hxk⟩ : ∃ x, ys[k]? = some x := ⟨_, List.getElem?_eq_getElem hkl⟩
      obtain ⟨b1, o1, rfl, c0, c1⟩ := (hb.evo0 hev).at hxk
      obtain ⟨xa, xv, xb⟩ := x
      dsimp only at *
      obtain ⟨hsx, hbx, hlx⟩ := hb.each _ (List.mem_of_getElem? hxk)
      dsimp only at hsx hbx hlx
      obtain ⟨V, cv, rfl, hcv⟩ : ∃ A c, xv = .slice A xb.length c ∧ xb.length ≤ c := by obtain ⟨A, c, e, h, _⟩ := hsx; exact ⟨A, c, e, h⟩
      have hcnt : ((ys.take k).map ItD.key).count (xa, xb) ≤ 1000 := Nat.le_trans List.count_le_length (by simp; omega)
      obtain ⟨n, hn⟩ : ∃ n, ((ys.take k).map ItD.key).count (xa, xb) = n := ⟨_, rfl⟩
      obtain ⟨W1, hW1⟩ : ∃ W1, W1 = (wr.alloc (.cells #[.int .i64 xa, .slice V xb.length cv] 26)).drew := ⟨_, rfl⟩
      have hev1 : Evo (fun _ => False) wr W1 := by rw [hW1]; exact ((Evo.refl _ wr).alloc _).drew
      have p0 : W1.cell? ⟨wr.heap.size, 0, none⟩ = some (.int .i64 xa) := by rw [hW1]; exact blk_cell (heap_alloc_new wr _) 0
      have p1 : W1.cell? ⟨wr.heap.size, 1, none⟩ = some (.slice V xb.length cv) := by rw [hW1]; exact blk_cell (heap_alloc_new wr _) 1
      have hC1 := hC.evo hev1
      have hof := of_walk W1 xa _ xb ((hsx.evo0 hev).evo0 hev1)
      have hlk1 := hC1.look xa xb hbx
      rw [hn] at hlk1 hcnt
      obtain ⟨kv, hkv⟩ : ∃ kv, ik xa xb = kv := ⟨_, rfl⟩
      have hpm : wr.heap.size ≠ m := by have := hC.evo (Evo.refl _ wr); obtain ⟨F, hF, _⟩ := this; have := hF.lt; omega
      subst hW1
      go_wp2
      refine wp_region_seq_drop (fun w' => w'.cell? ⟨wr.heap.size, 0, none⟩ = some (.int .i64 xa) ∧ w'.cell? ⟨wr.heap.size, 1, none⟩ = some (.slice V xb.length cv) ∧ (Instr.lookup 34 (.map (some m)) (ik xa xb) false).run Try.prog w' = .ok (.int .i64 n) w') [0, 1, 3, 4, 6] [0, 1, 2, 3, 4, 5, 6] 7 (by kernel_rfl) rfl (by kernel_rfl) (by kernel_rfl) (by kernel_rfl) rfl (by kernel_rfl) (fun _ _ _ _ _ h => h) (⟨p0, p1, hlk1⟩) ?_
      dsimp only [List.dropLast]
      repeat
        apply seq_read (by rfl)
        · (simp only [List.getElem?_toArray, List.getElem?_cons_succ, List.getElem?_cons_zero]; rfl)
        · rfl
        · (intro w' hSw; (first | subst hSw | (try dsimp only at hSw)); go_simp; (try go_bits); (try with_reducible rfl))
        simp only [Act.put, List.setIfInBounds_toArray, List.set_cons_zero, List.set_cons_succ]
      apply seq_act (by rfl)
      · (simp only [List.getElem?_toArray, List.getElem?_cons_succ, List.getElem?_cons_zero]; rfl)
      · rfl
      refine wp_k (fun K hK => ?_)
      go_simp
      refine (hof).mono ?_
      rintro e w2 ⟨rfl, hev2⟩
      refine hK _ _ ⟨⟨(hev2.cell (by simp) (fun hf => hf)).trans p0, (hev2.cell (by simp) (fun hf => hf)).trans p1, by have := (hC1.evo hev2).look xa xb hbx; rwa [hn] at this⟩, ?_⟩
      clear hK K
      try simp only [Act.put, List.setIfInBounds_toArray, List.set_cons_zero, List.set_cons_succ]
      apply seq_read (by rfl)
      · (simp only [List.getElem?_toArray, List.getElem?_cons_succ, List.getElem?_cons_zero]; rfl)
      · rfl
      · (intro w' hSw; exact run_op_lookup rfl hSw.2.2)
      simp only [Act.put, List.setIfInBounds_toArray, List.set_cons_zero, List.set_cons_succ]
      repeat
        apply seq_read (by rfl)
        · (simp only [List.getElem?_toArray, List.getElem?_cons_succ, List.getElem?_cons_zero]; rfl)
        · rfl
        · (intro w' hSw; (first | subst hSw | (try dsimp only at hSw)); go_simp; (try go_bits); (try with_reducible rfl))
        simp only [Act.put, List.setIfInBounds_toArray, List.set_cons_zero, List.set_cons_succ]
      have hC2 := hC1.evo hev2
      obtain ⟨st, w3, hrun3, hC3, hcell3, hevm3, hcs3, hst⟩ := hC2.entry xa xb hbx
      rw [hn] at hrun3
      obtain ⟨w4, hrun4, hC4, hcell4, hevm4, hcs4⟩ := hst (n + 1)
      have G3 := Lib.hid hrun3
      have hrun4' : (Instr.entryStore 34 (.map (some m)) (goInt st) (.int .i64 ((n : Int) + 1))).run Try.prog w3 = .ok () w4 := hrun4
      have G4 := Lib.hid hrun4'
      clear hrun3 hrun4 hrun4' hst
      apply seq_act (by rfl)
      · (simp only [List.getElem?_toArray, List.getElem?_cons_succ, List.getElem?_cons_zero]; rfl)
      · rfl
      refine wp_val (run_op_mapEntry rfl G3.out) ⟨⟨(hcell3 _).trans ((hev2.cell (by simp) (fun hf => hf)).trans p0), (hcell3 _).trans ((hev2.cell (by simp) (fun hf => hf)).trans p1), by have := hC3.look xa xb hbx; rwa [hn] at this⟩, ?_⟩
      try simp only [Act.put, List.setIfInBounds_toArray, List.set_cons_zero, List.set_cons_succ]
      repeat
        apply seq_read (by rfl)
        · (simp only [List.getElem?_toArray, List.getElem?_cons_succ, List.getElem?_cons_zero]; rfl)
        · rfl
        · (intro w' hSw; (first | subst hSw | (try dsimp only at hSw)); go_simp; (try go_bits); (try with_reducible rfl))
        simp only [Act.put, List.setIfInBounds_toArray, List.set_cons_zero, List.set_cons_succ]
      refine seq_nil ?_
      apply last_act
      · (simp only [List.getElem?_toArray, List.getElem?_cons_succ, List.getElem?_cons_zero]; rfl)
      · rfl
      refine wp_void (run_op_entryStore rfl G4.out) ?_
      try simp only [Act.put, List.setIfInBounds_toArray, List.set_cons_zero, List.set_cons_succ]
      go_wp2
      go_roundg (ys.length - (k + 1))
      case measure => omega
      case rel =>
        refine ⟨k + 1, by omega, rfl, by first | rfl | simp, ?_, evo_new ((hev.two hev1).two hev2) hevm4 (by omega)⟩
        have he : (fun key => ((ys.take (k + 1)).map ItD.key).count key) = (fun key => if key = (xa, xb) then n + 1 else ((ys.take k).map ItD.key).count key) := by
          funext key
          rw [count_take hxk key]
          show (if key = (xa, xb) then ((ys.take k).map ItD.key).count (xa, xb) + 1 else _) = _
          rw [hn]
        rw [he]
        exact hC4
    · obtain rfl : k = ys.length := by omega
      rw [List.take_length] at hC
      go_wp2
      go_loopg [29, 10, 11, 8] xs.length (fun g j p q ov wx => ∃ k : Nat, k ≤ xs.length ∧ g = xs.length - k ∧ j = .int .i64 k ∧ ∃ (c : IKey → Nat) (outs : List ItD), Counts wx m c ∧ (∀ key, c key ≤ 1000) ∧ Evo (fun _ => False) w wx ∧
        wx.ownsRow w.heap.size 26 2 ov outs.length (outs.flatMap ItD.cells) ∧ (∀ x ∈ outs, wx.ownsRow w.heap.size 5 1 x.bv x.b.length (bys x.b) ∧ Byt x.b ∧ x.b.length ≤ 100000) ∧
        outs.map ItD.key ++ minusF ((xs.drop k).map ItD.key) c = minusL (xs.map ItD.key) (ys.map ItD.key) ∧ outs.length ≤ k)
      case atStart => exact ⟨0, by omega, rfl, rfl, _, [], hC, fun key => Nat.le_trans List.count_le_length (by simp; exact hy), hev, World.ownsRow_nil _ _ _ _, fun x hx => (by cases hx), rfl, by simp⟩
      case round =>
        obtain ⟨k, hk, rfl, rfl, c, outs, hC, hcle, hev, hrow, hown, htot, hol⟩ := hrel
        by_cases hkl : k < xs.length
        · have hkz : (k : Int) < (xs.length : Int) := by omega
          obtain ⟨x, hxk⟩ : ∃ x, xs[k]? = some x := ⟨_, List.getElem?_eq_getElem hkl⟩
          obtain ⟨b1, o1, rfl, c0, c1⟩ := (ha.evo0 hev).at hxk
          rw [map_drop hxk] at htot
          obtain ⟨xa, xv, xb⟩ := x
          dsimp only at *
          obtain ⟨hsx, hbx, hlx⟩ := ha.each _ (List.mem_of_getElem? hxk)
          dsimp only at hsx hbx hlx
          obtain ⟨V, cv, rfl, hcv⟩ : ∃ A c, xv = .slice A xb.length c ∧ xb.length ≤ c := by obtain ⟨A, c, e, h, _⟩ := hsx; exact ⟨A, c, e, h⟩
          obtain ⟨AO, cO, rfl, hcO⟩ := ownsRow_slice hrow
          have hev1 : Evo (fun _ => False) wr (wr.alloc (.cells #[.int .i64 xa, .slice V xb.length cv] 26)) := (Evo.refl _ wr).alloc _
          have p0 : (wr.alloc (.cells #[.int .i64 xa, .slice V xb.length cv] 26)).cell? ⟨wr.heap.size, 0, none⟩ = some (.int .i64 xa) := blk_cell (heap_alloc_new wr _) 0
          have p1 : (wr.alloc (.cells #[.int .i64 xa, .slice V xb.length cv] 26)).cell? ⟨wr.heap.size, 1, none⟩ = some (.slice V xb.length cv) := blk_cell (heap_alloc_new wr _) 1
          have hof := of_walk _ xa _ xb ((hsx.evo0 hev).evo0 hev1)
          go_wp2_with fail
          refine hof.mono ?_
          rintro e w2 ⟨rfl, hev2⟩
          have hevw2 : Evo (fun _ => False) wr w2 := hev1.two hev2
          have q0 : w2.cell? ⟨wr.heap.size, 0, none⟩ = some (.int .i64 xa) := (hev2.cell (by simp) (fun hf => hf)).trans p0
          have q1 : w2.cell? ⟨wr.heap.size, 1, none⟩ = some (.slice V xb.length cv) := (hev2.cell (by simp) (fun hf => hf)).trans p1
          have hik : ik xa xb = .agg #[.int .i64 xa, .string (toStr xb)] := rfl
          rw [hik]
          have hev3 : Evo (fun _ => False) w2 (w2.alloc (.cells #[.int .i64 xa, .string (toStr xb)] 36)) := (Evo.refl _ w2).alloc _
          have hC3 : Counts (w2.alloc (.cells #[.int .i64 xa, .string (toStr xb)] 36)) m c := (hC.evo hevw2).evo hev3
          have hlk := hC3.look xa xb hbx
          rw [hik] at hlk
          have q0' := (hev3.cell (p := ⟨wr.heap.size, 0, none⟩) (World.block_lt_of_cell? w2 _ q0) (fun hf => hf)).trans q0
          have q1' := (hev3.cell (p := ⟨wr.heap.size, 1, none⟩) (World.block_lt_of_cell? w2 _ q1) (fun hf => hf)).trans q1
          have r0 : (w2.alloc (.cells #[.int .i64 xa, .string (toStr xb)] 36)).cell? ⟨w2.heap.size, 0, none⟩ = some (.int .i64 xa) := blk_cell (heap_alloc_new w2 _) 0
          have r1 : (w2.alloc (.cells #[.int .i64 xa, .string (toStr xb)] 36)).cell? ⟨w2.heap.size, 1, none⟩ = some (.string (toStr xb)) := blk_cell (heap_alloc_new w2 _) 1
          have hevA : Evo (fun _ => False) wr (w2.alloc (.cells #[.int .i64 xa, .string (toStr xb)] 36)).drew := (hevw2.two hev3).drew
          have hm2 : w.heap.size ≤ m := by omega
          by_cases hc : 0 < c (xa, xb)
          · obtain ⟨n, hn⟩ : ∃ n, c (xa, xb) = n + 1 := ⟨c (xa, xb) - 1, by omega⟩
            have hnle := hcle (xa, xb)
            rw [hn] at hlk hnle
            have hlk' : (Instr.lookup 34 (.map (some m)) (.agg #[.int .i64 xa, .string (toStr xb)]) false).run Try.prog (w2.alloc (.cells #[.int .i64 xa, .string (toStr xb)] 36)) = .ok (.int .i64 ((n : Int) + 1)) (w2.alloc (.cells #[.int .i64 xa, .string (toStr xb)] 36)) := hlk
            have hpos : (0 : Int) < (n : Int) + 1 := by omega
            obtain ⟨st, w3, hrun3, hC4, hcell3, hevm3, hcs3, hst⟩ := Counts.entry (w := (w2.alloc (.cells #[.int .i64 xa, .string (toStr xb)] 36)).drew) hC3 xa xb hbx
            rw [hn] at hrun3
            obtain ⟨w4, hrun4, hC5, hcell4, hevm4, hcs4⟩ := hst n
            have hlk3 := hC4.look xa xb hbx
            rw [hn] at hlk3
            have G3 := Lib.hid hrun3
            have G4 := Lib.hid hrun4
            have GL := Lib.hid hlk'
            have hlkd := Counts.look (w := (w2.alloc (.cells #[.int .i64 xa, .string (toStr xb)] 36)).drew) hC3 xa xb hbx
            rw [hn] at hlkd
            clear hrun3 hrun4 hst hlk
            go_wp2
            refine wp_region_seq_drop (fun w' => w'.cell? ⟨w2.heap.size, 0, none⟩ = some (.int .i64 xa) ∧ w'.cell? ⟨w2.heap.size, 1, none⟩ = some (.string (toStr xb)) ∧ (Instr.lookup 34 (.map (some m)) (.agg #[.int .i64 xa, .string (toStr xb)]) false).run Try.prog w' = .ok (.int .i64 ((n : Int) + 1)) w') [0, 1, 2, 3, 5] [0, 1, 2, 3, 4, 5] 6 (by kernel_rfl) rfl (by kernel_rfl) (by kernel_rfl) (by kernel_rfl) rfl (by kernel_rfl) (fun _ _ _ _ _ h => h) (⟨r0, r1, hlkd⟩) ?_
            dsimp only [List.dropLast]
            repeat
              apply seq_read (by rfl)
              · (simp only [List.getElem?_toArray, List.getElem?_cons_succ, List.getElem?_cons_zero]; rfl)
              · rfl
              · (intro w' hSw; (first | subst hSw | (try dsimp only at hSw)); go_simp; (try go_bits); (try with_reducible rfl))
              simp only [Act.put, List.setIfInBounds_toArray, List.set_cons_zero, List.set_cons_succ]
            apply seq_act (by rfl)
            · (simp only [List.getElem?_toArray, List.getElem?_cons_succ, List.getElem?_cons_zero]; rfl)
            · rfl
            refine wp_val (run_op_mapEntry rfl G3.out) ⟨⟨(hcell3 _).trans r0, (hcell3 _).trans r1, hlk3⟩, ?_⟩
            try simp only [Act.put, List.setIfInBounds_toArray, List.set_cons_zero, List.set_cons_succ]
            repeat
              apply seq_read (by rfl)
              · (simp only [List.getElem?_toArray, List.getElem?_cons_succ, List.getElem?_cons_zero]; rfl)
              · rfl
              · (intro w' hSw; (first | subst hSw | (try dsimp only at hSw)); go_simp; (try go_bits); (try with_reducible rfl))
              simp only [Act.put, List.setIfInBounds_toArray, List.set_cons_zero, List.set_cons_succ]
            refine seq_nil ?_
            apply last_act
            · (simp only [List.getElem?_toArray, List.getElem?_cons_succ, List.getElem?_cons_zero]; rfl)
            · rfl
            refine wp_void (run_op_entryStore rfl G4.out) ?_
            try simp only [Act.put, List.setIfInBounds_toArray, List.set_cons_zero, List.set_cons_succ]
            go_wp2
            go_roundg (xs.length - (k + 1))
            case measure => omega
            case rel =>
              have S4 : ∀ e, SameKind e wr w4 := fun e k' cs f hk' => hcs4 k' cs e f (by
                have : k' < wr.heap.size := heap_lt hk'
                exact (hevA.block k' this (fun hf => hf)).trans hk')
              refine ⟨k + 1, by omega, rfl, by first | rfl | simp, _, outs, hC5, fun key => ?_, evo_new (hev.two hevA) hevm4 hm2, ownsRow_same hrow (S4 26), fun x hx => ⟨ownsRow_same (hown x hx).1 (S4 5), (hown x hx).2⟩, ?_, by omega⟩
              · show (if key = (xa, xb) then n else c key) ≤ 1000
                split
                · omega
                · exact hcle key
              · rw [← htot]
                show _ = outs.map ItD.key ++ minusF ((xa, xb) :: _) c
                rw [minusF, if_pos hc]
                congr 2
                funext key
                rw [hn]
                rfl
          · have hc0 : c (xa, xb) = 0 := by omega
            rw [hc0] at hlk
            have hlk' : (Instr.lookup 34 (.map (some m)) (.agg #[.int .i64 xa, .string (toStr xb)]) false).run Try.prog (w2.alloc (.cells #[.int .i64 xa, .string (toStr xb)] 36)) = .ok (.int .i64 0) (w2.alloc (.cells #[.int .i64 xa, .string (toStr xb)] 36)) := hlk
            clear hlk
            obtain ⟨W3, hW3⟩ : ∃ W3, W3 = (w2.alloc (.cells #[.int .i64 xa, .string (toStr xb)] 36)).drew := ⟨_, rfl⟩
            have hevW : Evo (fun _ => False) wr W3 := by rw [hW3]; exact hevA
            have q0'' : W3.cell? ⟨wr.heap.size, 0, none⟩ = some (.int .i64 xa) := by rw [hW3]; exact q0'
            have q1'' : W3.cell? ⟨wr.heap.size, 1, none⟩ = some (.slice V xb.length cv) := by rw [hW3]; exact q1'
            have hsW : Src W3 1 (.slice V xb.length cv) xb.length (bys xb) := (hsx.evo0 hev).evo0 hevW
            obtain ⟨A4, c4, w4, hrun4, hown4, hg4⟩ := run_append_fresh (P := Try.prog) W3 24 24 5 i5 _ 1 1 Try.underlying24 hi5 hz5 hs5 hb5 rfl (by omega) _ xb.length _ hsW (bys_one _) (by simp only [maxLen]; omega) (by omega)
            have hev4 : Evo (fun _ => False) W3 w4 := (Evo.refl _ W3).grown hg4 (by simp)
            obtain ⟨W5, hW5⟩ : ∃ W5, W5 = w4.alloc (.cells #[.int .i64 xa, .slice A4 xb.length c4] 26) := ⟨_, rfl⟩
            have hev5 : Evo (fun _ => False) w4 W5 := by rw [hW5]; exact (Evo.refl _ w4).alloc _
            have hrow5 := ownsRow_evo (ownsRow_evo (ownsRow_evo hrow hevW (fun _ _ hf => hf)) hev4 (fun _ _ hf => hf)) hev5 (fun _ _ hf => hf)
            have hsl : Src W5 2 (.slice (some ⟨w4.heap.size, 0, none⟩) 1 1) 1 [.int .i64 xa, .slice A4 xb.length c4] := by rw [hW5]; exact Src.laid _ _ _ _ _ rfl
            obtain ⟨v6, w6, hrun6, hown6, hg6, hat6⟩ := run_append_src (P := Try.prog) W5 w.heap.size 22 22 26 i26 _ 2 32 Try.underlying22 hi26 hz26 hs26 hb26 rfl (by omega) (.slice AO outs.length cO) outs.length _ hrow5 _ 1 _ hsl (by simp [Value.oneCell']) (by simp only [maxLen]; omega) (by omega) (by have := hev.size; have := hevW.size; have := hev4.size; have := hev5.size; omega)
            have hbase : ∀ g, (Value.slice AO outs.length cO).ownBlock = some g → w.heap.size ≤ g := fun g hg => (hrow.lt g hg).1
            have hevW5 : Evo (fun _ => False) wr W5 := (hevW.two hev4).two hev5
            have hev6 : Evo (fun _ => False) w w6 := (hev.two hevW5).grown hg6 (fun g hg => .inr (hbase g hg))
            have hkO : ∀ g, (Value.slice AO outs.length cO).ownBlock = some g → ∃ c f, W5.heap[g]? = some (.cells c 26 f) := ownsRow_kind hrow5
            have S6 : SameKind 5 W5 w6 := (SameKind.refl 5 W5).grown hg6 hkO (by decide)
            have hC6 : Counts w6 m c := by
              obtain ⟨F, hF, hcF⟩ := hC.evo hevW5
              exact ⟨F, hF.of_grown hg6 (fun g hg => by obtain ⟨c', f', h'⟩ := hkO g hg; exact ⟨c', 26, f', h'⟩), hcF⟩
            have zz : ∀ (p : Addr) (u : Value), W3.cell? p = some u → w4.cell? p = some u ∧ W5.cell? p = some u := fun p u hp => by
              have h4 := (hev4.cell (World.block_lt_of_cell? W3 _ hp) (fun hf => hf)).trans hp
              exact ⟨h4, (hev5.cell (World.block_lt_of_cell? w4 _ h4) (fun hf => hf)).trans h4⟩
            have zp : ∀ (u : Value) (i : Nat), W3.cell? ⟨wr.heap.size, i, none⟩ = some u → w6.cell? ⟨wr.heap.size, i, none⟩ = some u := fun u i hp => by
              refine hg6.cell (zz _ _ hp).2 (fun e => ?_)
              have := (hrow.lt _ e.symm).2
              simp at this
            have GA := Lib.hid hrun4
            have GB := Lib.hid hrun6
            rw [hW3] at GA
            rw [hW5] at GB
            have y0 := zz _ _ q0''
            have y1 := zz _ _ q1''
            have x0 := zp _ _ q0''
            have x1 := zp _ _ q1''
            rw [hW5] at y0 y1
            rw [hW3] at q0'' q1''
            clear hrun4 hrun6 c0 c1 p0 p1
            go_wp2
            refine wp_region_seq (fun w' => w'.cell? ⟨wr.heap.size, 0, none⟩ = some (.int .i64 xa) ∧ w'.cell? ⟨wr.heap.size, 1, none⟩ = some (.slice V xb.length cv)) [0, 1, 2, 3, 4, 6, 9] [0, 1, 2, 3, 4, 5, 6, 7, 8, 9] (by kernel_rfl) (by kernel_rfl) (by rfl) (by kernel_rfl) (fun _ _ _ _ _ h => h) (⟨q0'', q1''⟩) ?_
            repeat
              apply seq_read (by rfl)
              · (simp only [List.getElem?_toArray, List.getElem?_cons_succ, List.getElem?_cons_zero]; rfl)
              · rfl
              · (intro w' hSw; (first | subst hSw | (try dsimp only at hSw)); go_simp; (try go_bits); (try with_reducible rfl))
              simp only [Act.put, List.setIfInBounds_toArray, List.set_cons_zero, List.set_cons_succ]
            apply seq_act (by rfl)
            · (simp only [List.getElem?_toArray, List.getElem?_cons_succ, List.getElem?_cons_zero]; rfl)
            · rfl
            refine wp_val (run_op_append rfl GA.out) ⟨⟨y0.1, y1.1⟩, ?_⟩
            try simp only [Act.put, List.setIfInBounds_toArray, List.set_cons_zero, List.set_cons_succ]
            repeat
              apply seq_read (by rfl)
              · (simp only [List.getElem?_toArray, List.getElem?_cons_succ, List.getElem?_cons_zero]; rfl)
              · rfl
              · (intro w' hSw; (first | subst hSw | (try dsimp only at hSw)); go_simp; (try go_bits); (try with_reducible rfl))
              simp only [Act.put, List.setIfInBounds_toArray, List.set_cons_zero, List.set_cons_succ]
            apply seq_act (by rfl)
            · (simp only [List.getElem?_toArray, List.getElem?_cons_succ, List.getElem?_cons_zero]; rfl)
            · rfl
            refine wp_k (fun K hK => ?_)
            go_simp
            refine hK _ _ ⟨⟨y0.2, y1.2⟩, ?_⟩
            clear hK K
            try simp only [Act.put, List.setIfInBounds_toArray, List.set_cons_zero, List.set_cons_succ]
            apply seq_act (by rfl)
            · (simp only [List.getElem?_toArray, List.getElem?_cons_succ, List.getElem?_cons_zero]; rfl)
            · rfl
            refine wp_val (run_op_append rfl GB.out) ⟨⟨x0, x1⟩, ?_⟩
            try simp only [Act.put, List.setIfInBounds_toArray, List.set_cons_zero, List.set_cons_succ]
            repeat
              apply seq_read (by rfl)
              · (simp only [List.getElem?_toArray, List.getElem?_cons_succ, List.getElem?_cons_zero]; rfl)
              · rfl
              · (intro w' hSw; (first | subst hSw | (try dsimp only at hSw)); go_simp; (try go_bits); (try with_reducible rfl))
              simp only [Act.put, List.setIfInBounds_toArray, List.set_cons_zero, List.set_cons_succ]
            refine seq_nil ?_
            go_wp2
            go_roundg (xs.length - (k + 1))
            case measure => omega
            case rel =>
              have hfm : (outs ++ [(⟨xa, .slice A4 xb.length c4, xb⟩ : ItD)]).flatMap ItD.cells = outs.flatMap ItD.cells ++ [.int .i64 xa, .slice A4 xb.length c4] := by simp [ItD.cells]
              refine ⟨k + 1, by omega, rfl, by first | rfl | simp, c, outs ++ [⟨xa, .slice A4 xb.length c4, xb⟩], hC6, hcle, hev6, ?_, ?_, ?_, by simp; omega⟩
              · rw [hfm, List.length_append]
                exact hown6
              · intro x hx
                rcases List.mem_append.1 hx with h | h
                · exact ⟨ownsRow_same (ownsRow_evo (hown x h).1 hevW5 (fun _ _ hf => hf)) S6, (hown x h).2⟩
                · simp only [List.mem_singleton] at h
                  subst h
                  refine ⟨ownsRow_base (ownsRow_same (ownsRow_evo hown4 hev5 (fun _ _ hf => hf)) S6) (fun g hg => ?_), hbx, hlx⟩
                  have := (hown4.lt g hg).1
                  have := hev.size
                  have := hevW.size
                  omega
              · rw [← htot]
                show _ = outs.map ItD.key ++ minusF ((xa, xb) :: _) c
                rw [minusF, if_neg hc, List.map_append, List.append_assoc]
                rfl
        · obtain rfl : k = xs.length := by omega
          obtain ⟨AO, cO, rfl, hcO⟩ := ownsRow_slice hrow
          go_wp2
          go_ret
          refine ⟨_, outs, rfl, hev, ⟨Src.of_own hrow, fun x hx => ⟨Src.of_own (hown x hx).1, (hown x hx).2⟩⟩, ?_⟩
          rw [← htot, List.drop_length]
          simp [minusF]

end Go.Proofs.Ytelljdkcgipkkaa
