/- The walk of the reference's Look. -/
import Derived.Test.YtnndkameadlkdaaRfE
namespace Go.Proofs.Ytnndkameadlkdaa
open Go.RowKit

set_option maxRecDepth 100000 in
set_option maxHeartbeats 2000000 in
theorem rlook_walk (N : Nat → Prop) (w : World) (hN : ∀ k, N k → k < w.heap.size) (v : Value) (t : WS) (n : Nat) (h : RefT N w v t n) (hn : n ≤ 1000) (hb : Bd t) (i : Int) :
    Calls Try.prog 43 #[v, .int .i64 i] w fun e w' => ∃ v' B d, e = .returned (.tuple #[v', .slice B (t.lookB i).length d]) ∧ RefT N w' v' (t.look i) n ∧ SrcN N w' 1 (.slice B (t.lookB i).length d) (t.lookB i).length (bys (t.lookB i)) ∧ Evo (fun _ => False) w w' := by
  obtain ⟨S, E, L, T, cs, ce, cl, ct, sl, ll, rfl, hD, hll⟩ := h
  obtain ⟨C, hC⟩ : ∃ C, C = tcells t (.slice S 8 cs) (.slice E 2 ce) (.slice L ll.length cl) (.slice T t.trace.length ct) := ⟨_, rfl⟩
  have hB0 : ∀ d, t.dead = d → Boxes w ((w.alloc (.cells #[.int .i64 t.blocks, .slice S 8 cs, .slice E 2 ce, .int .u64 t.counter, .slice L ll.length cl, .int .i64 t.reads, .bool t.armed, .int .i64 t.power, .bool d, .slice T t.trace.length ct] 56)).alloc (.cells #[.int .i64 0, .slice none 0 0, .slice none 0 0, .int .u64 0, .slice none 0 0, .int .i64 0, .bool false, .int .i64 0, .bool false, .slice none 0 0] 56))
      (tcells t (.slice S 8 cs) (.slice E 2 ce) (.slice L ll.length cl) (.slice T t.trace.length ct)) := by
    rintro d rfl
    exact Boxes.start w _
  have HB0 := Lib.hid hB0
  clear hB0
  cases ht : t.sealed i with
  | false =>
    have e1 : t.look i = t := by simp [WS.look, ht]
    have e2 : t.lookB i = [] := by simp [WS.lookB, ht]
    rw [e1, e2]
    have hn2 := sealed_not ht
    have hB1 := HB0.out _ rfl
    obtain ⟨w2, hst, hc2, ev2, _⟩ := hB1.put _ rfl (tcells_one t S E L T 8 cs 2 ce ll.length cl t.trace.length ct)
    have hD2 := hD.evo0 ev2
    unfold tcells at hst hc2
    unfold tcells
    have Hst := Lib.hid hst
    have Hc2 := Lib.hid hc2
    have HD2 := Lib.hid hD2
    have hcase : t.dead = true ∨ (t.dead = false ∧ i < 0) ∨ (t.dead = false ∧ 1 < i) := by
      cases hd : t.dead
      · right
        by_cases h0 : i < 0
        · exact .inl ⟨rfl, h0⟩
        · exact .inr ⟨rfl, by simp [hd] at hn2; omega⟩
      · exact .inl rfl
    have HTC : Hid (∀ d, t.dead = d → (Value.agg #[.int .i64 t.blocks, .slice S 8 cs, .slice E 2 ce, .int .u64 t.counter, .slice L ll.length cl, .int .i64 t.reads, .bool t.armed, .int .i64 t.power, .bool d, .slice T t.trace.length ct]) = .agg (tcells t (.slice S 8 cs) (.slice E 2 ce) (.slice L ll.length cl) (.slice T t.trace.length ct))) := by rintro d rfl; rfl
    clear e1 e2 ht hC hst hc2 hB1 hn2 hD2
    rcases hcase with hd | ⟨hd, h0⟩ | ⟨hd, h0⟩
    · rw [hd] at Hst Hc2 ⊢
      have Hd := Lib.hid hd
      clear hd
      go_enter Try.func43, Try.ntmps43
      go_wp2_with (first | (refine wpList_void rfl (run_op_store rfl Hst.out) ?_))
      refine bodyPost_ret (v := .tuple #[.agg #[.int .i64 t.blocks, .slice S 8 cs, .slice E 2 ce, .int .u64 t.counter, .slice L ll.length cl, .int .i64 t.reads, .bool t.armed, .int .i64 t.power, .bool true, .slice T t.trace.length ct], .slice none 0 0]) (by simp [results, Try.results43, go_sem, Hc2.out]) rfl ⟨_, none, 0, rfl, ⟨S, E, L, T, cs, ce, cl, ct, sl, ll, HTC.out _ Hd.out, HD2.out, hll⟩, SrcN.nil _ _, ev2⟩
    · rw [hd] at Hst Hc2 ⊢
      have Hd := Lib.hid hd
      clear hd
      go_enter Try.func43, Try.ntmps43
      go_wp2_with (first | (refine wpList_void rfl (run_op_store rfl Hst.out) ?_))
      refine bodyPost_ret (v := .tuple #[.agg #[.int .i64 t.blocks, .slice S 8 cs, .slice E 2 ce, .int .u64 t.counter, .slice L ll.length cl, .int .i64 t.reads, .bool t.armed, .int .i64 t.power, .bool false, .slice T t.trace.length ct], .slice none 0 0]) (by simp [results, Try.results43, go_sem, Hc2.out]) rfl ⟨_, none, 0, rfl, ⟨S, E, L, T, cs, ce, cl, ct, sl, ll, HTC.out _ Hd.out, HD2.out, hll⟩, SrcN.nil _ _, ev2⟩
    · rw [hd] at Hst Hc2 ⊢
      have h0' : 0 ≤ i := by omega
      have Hd := Lib.hid hd
      clear hd
      go_enter Try.func43, Try.ntmps43
      go_wp2_with (first | (refine wpList_void rfl (run_op_store rfl Hst.out) ?_))
      refine bodyPost_ret (v := .tuple #[.agg #[.int .i64 t.blocks, .slice S 8 cs, .slice E 2 ce, .int .u64 t.counter, .slice L ll.length cl, .int .i64 t.reads, .bool t.armed, .int .i64 t.power, .bool false, .slice T t.trace.length ct], .slice none 0 0]) (by simp [results, Try.results43, go_sem, Hc2.out]) rfl ⟨_, none, 0, rfl, ⟨S, E, L, T, cs, ce, cl, ct, sl, ll, HTC.out _ Hd.out, HD2.out, hll⟩, SrcN.nil _ _, ev2⟩
  | true =>
    have e1 : t.look i = t.count.note 3 i 0 (t.says (t.seals i)) := by simp [WS.look, ht]
    have e2 : t.lookB i = t.says (t.seals i) := by simp [WS.lookB, ht]
    rw [e1, e2]
    obtain ⟨hd, hi01⟩ := sealed_of ht
    have hi0 : 0 ≤ i := by omega
    have hi1 : i ≤ 1 := by omega
    obtain ⟨K, hK⟩ : ∃ K : Nat, (K : Int) = i := ⟨i.toNat, by omega⟩
    have hx : ([t.seals 0, t.seals 1] : List (List Int))[K]? = some (t.seals i) := by
      rcases hi01 with rfl | rfl
      · obtain rfl : K = 0 := by omega
        rfl
      · obtain rfl : K = 1 := by omega
        rfl
    have hKz : (K : Int) < 2 := by omega
    have hw1 : True := trivial
    have hw2 : True := trivial
    obtain ⟨tl, htl⟩ : ∃ l, t.says (t.seals i) = l := ⟨_, rfl⟩
    have htold : (lastLie ll t.reads).getD (t.seals i) = tl := by rw [hD.last, ← htl]; rfl
    have hlen9 : ll.length ≤ 900000 := by omega
    have HTold := Lib.hid htold
    have HW1 := Lib.hid hw1
    have HW2 := Lib.hid hw2
    rw [htl]
    have HC := Lib.hid hC
    subst hK
    clear e1 e2 ht hC htl htold hw1 hw2 hi01
    have hB1 := HB0.out _ hd
    unfold tcells
    rw [hd]
    clear hd
    obtain ⟨rb, ro, RB, rd', rfl, hKn, hnc, hcK0, hsrc⟩ := hD.seals.at hx
    obtain ⟨w1, hw1e⟩ : ∃ w1, ((w.alloc (.cells #[.int .i64 t.blocks, .slice S 8 cs, .slice (some ⟨rb, ro, none⟩) 2 ce, .int .u64 t.counter, .slice L ll.length cl, .int .i64 t.reads, .bool t.armed, .int .i64 t.power, .bool false, .slice T t.trace.length ct] 56)).alloc (.cells #[.int .i64 0, .slice none 0 0, .slice none 0 0, .int .u64 0, .slice none 0 0, .int .i64 0, .bool false, .int .i64 0, .bool false, .slice none 0 0] 56)) = w1 := ⟨_, rfl⟩
    rw [hw1e] at hB1
    have HW1E := Lib.hid hw1e
    clear hw1e
    go_enter Try.func43, Try.ntmps43
    have hcK := (hB1.ev.cell (World.block_lt_of_cell? _ _ hcK0) (fun hf => hf)).trans hcK0
    clear hcK0
    have k1 : _ = some (Value.slice (some ⟨rb, ro, none⟩) 2 ce) := blk_cell hB1.b1 2
    go_wp2_with fail
    rw [HW1E.out]
    go_cut [6, 7] (fun s8 s9 wx => ∃ (g : Nat) (B : Option Addr) (d : Nat), s8 = .pointer (some ⟨g, 0, none⟩) ∧ s9 = .slice B tl.length d ∧ Mid N w wx (tcells t (.slice S 8 cs) (.slice (some ⟨rb, ro, none⟩) 2 ce) (.slice L ll.length cl) (.slice T t.trace.length ct)) (tcells t.count (.slice S 8 cs) (.slice (some ⟨rb, ro, none⟩) 2 ce) (.slice L ll.length cl) (.slice T t.trace.length ct)) g B d tl)
    case first =>
      have hw1 := HW1.out
      have hw2 := HW2.out
      refine wp_region_plan (fun w' => Boxes w w' (tcells t (.slice S 8 cs) (.slice (some ⟨rb, ro, none⟩) 2 ce) (.slice L ll.length cl) (.slice T t.trace.length ct)) ∧ w'.cell? ⟨w.heap.size, 2, none⟩ = some (.slice (some ⟨rb, ro, none⟩) 2 ce) ∧ w'.cell? ⟨rb, ro + K, none⟩ = some (.slice RB (t.seals K).length rd')) (.rds [0, 1, 2, 3, 4, 5] (.two 6 (.rds [7, 8, 9] (.act 10 (.act 11 (.rd 12 .done)))) 10 (.act 6 (.rds [7, 8, 9] (.act 11 (.rd 12 .done)))))) 13 (by kernel_rfl) (by kernel_rfl) (by rfl) (by kernel_rfl) (fun _ _ _ _ _ h => h) (⟨hB1.evo ((Evo.refl _ w1).drew), k1, hcK⟩) ?_
      try simp only [Plan.rds]
      apply plan_read
      · (simp only [List.getElem?_toArray, List.getElem?_cons_succ, List.getElem?_cons_zero]; rfl)
      · rfl
      · (intro w' hSw; exact run_op_load rfl (hSw.1.load rfl))
      simp only [Act.put, List.setIfInBounds_toArray, List.set_cons_zero, List.set_cons_succ]
      repeat
        first
        | (apply plan_read
           · (simp only [List.getElem?_toArray, List.getElem?_cons_succ, List.getElem?_cons_zero]; rfl)
           · rfl
           · (intro w' hSw; (first | subst hSw | (try dsimp only at hSw)); go_simp; (try go_bits); (try with_reducible rfl))
           simp only [Act.put, List.setIfInBounds_toArray, List.set_cons_zero, List.set_cons_succ])
        | (apply plan_pass
           · (simp only [List.getElem?_toArray, List.getElem?_cons_succ, List.getElem?_cons_zero]; rfl)
           · rfl
           simp only [Act.put, List.setIfInBounds_toArray, List.set_cons_zero, List.set_cons_succ])
      have hT := fun wx he => rtold_walk N wx t S (some ⟨rb, ro, none⟩) L T 8 cs 2 ce cl ct w he t.trace.length ll hD.lies hlen9 hb.reads0 (by have := hb.reads1; omega) (.slice RB (t.seals K).length rd') (t.seals K) hsrc
      rw [HTold.out] at hT
      have HT := Lib.hid hT
      clear hT
      have e1 : Evo (fun _ => False) w w1.drew := hB1.ev.drew
      have kk : ∀ wx, Evo (fun _ => False) w1.drew wx → Boxes w wx (tcells t (.slice S 8 cs) (.slice (some ⟨rb, ro, none⟩) 2 ce) (.slice L ll.length cl) (.slice T t.trace.length ct)) ∧ wx.cell? ⟨w.heap.size, 2, none⟩ = some (.slice (some ⟨rb, ro, none⟩) 2 ce) ∧ wx.cell? ⟨rb, ro + K, none⟩ = some (.slice RB (t.seals K).length rd') := fun wx he =>
        ⟨(hB1.evo ((Evo.refl _ w1).drew)).evo he, (he.cell (World.block_lt_of_cell? w1 _ k1) (fun hf => hf)).trans k1, (he.cell (World.block_lt_of_cell? w1 _ hcK) (fun hf => hf)).trans hcK⟩
      have KK := Lib.hid kk
      clear kk
      refine plan_two ?_ ?_
      ·
        first | apply plan_act | apply plan_op
        · (simp only [List.getElem?_toArray, List.getElem?_cons_succ, List.getElem?_cons_zero]; rfl)
        · rfl
        refine wp_k (fun K hK => ?_)
        go_simp
        refine (HT.out _ e1).mono ?_
        rintro e w2 ⟨B, d, rfl, hsB, ev2⟩
        refine hK _ _ ⟨KK.out _ ev2, ?_⟩
        clear hK K
        try simp only [Act.put, List.setIfInBounds_toArray, List.set_cons_zero, List.set_cons_succ]
        repeat
          first
          | (apply plan_read
             · (simp only [List.getElem?_toArray, List.getElem?_cons_succ, List.getElem?_cons_zero]; rfl)
             · rfl
             · (intro w' hSw; (first | subst hSw | (try dsimp only at hSw)); go_simp; (try go_bits); (try with_reducible rfl))
             simp only [Act.put, List.setIfInBounds_toArray, List.set_cons_zero, List.set_cons_succ])
          | (apply plan_pass
             · (simp only [List.getElem?_toArray, List.getElem?_cons_succ, List.getElem?_cons_zero]; rfl)
             · rfl
             simp only [Act.put, List.setIfInBounds_toArray, List.set_cons_zero, List.set_cons_succ])
        first | apply plan_act | apply plan_op
        · (simp only [List.getElem?_toArray, List.getElem?_cons_succ, List.getElem?_cons_zero]; rfl)
        · rfl
        refine wp_val (run_op_alloc rfl (alloc56 w2)) ⟨KK.out _ (ev2.alloc _), ?_⟩
        try simp only [Act.put, List.setIfInBounds_toArray, List.set_cons_zero, List.set_cons_succ]
        first | apply plan_act | apply plan_op
        · (simp only [List.getElem?_toArray, List.getElem?_cons_succ, List.getElem?_cons_zero]; rfl)
        · rfl
        refine wp_void (run_op_store rfl (store56_new w2 (tcells t.count (.slice S 8 cs) (.slice (some ⟨rb, ro, none⟩) 2 ce) (.slice L ll.length cl) (.slice T t.trace.length ct)) rfl (tcells_one ..))) ⟨KK.out _ (ev2.alloc _), ?_⟩
        try simp only [Act.put, List.setIfInBounds_toArray, List.set_cons_zero, List.set_cons_succ]
        repeat
          first
          | (apply plan_read
             · (simp only [List.getElem?_toArray, List.getElem?_cons_succ, List.getElem?_cons_zero]; rfl)
             · rfl
             · (intro w' hSw; (first | subst hSw | (try dsimp only at hSw)); go_simp; (try go_bits); (try with_reducible rfl))
             simp only [Act.put, List.setIfInBounds_toArray, List.set_cons_zero, List.set_cons_succ])
          | (apply plan_pass
             · (simp only [List.getElem?_toArray, List.getElem?_cons_succ, List.getElem?_cons_zero]; rfl)
             · rfl
             simp only [Act.put, List.setIfInBounds_toArray, List.set_cons_zero, List.set_cons_succ])
        refine plan_done ?_
        go_wp2_with fail
        go_meet
        exact ⟨_, B, d, rfl, rfl, Mid.mkA hB1 ev2 hsB⟩
      ·
        first | apply plan_act | apply plan_op
        · (simp only [List.getElem?_toArray, List.getElem?_cons_succ, List.getElem?_cons_zero]; rfl)
        · rfl
        refine wp_val (run_op_alloc rfl (alloc56 w1.drew)) ⟨KK.out _ ((Evo.refl _ w1.drew).alloc _), ?_⟩
        try simp only [Act.put, List.setIfInBounds_toArray, List.set_cons_zero, List.set_cons_succ]
        first | apply plan_act | apply plan_op
        · (simp only [List.getElem?_toArray, List.getElem?_cons_succ, List.getElem?_cons_zero]; rfl)
        · rfl
        refine wp_k (fun K hK => ?_)
        go_simp
        refine (HT.out _ (e1.alloc _)).mono ?_
        rintro e w2 ⟨B, d, rfl, hsB, ev2⟩
        refine hK _ _ ⟨KK.out _ (((Evo.refl _ w1.drew).alloc _).two ev2), ?_⟩
        clear hK K
        try simp only [Act.put, List.setIfInBounds_toArray, List.set_cons_zero, List.set_cons_succ]
        have hg := (ev2.block w1.heap.size (by simp) (fun hf => hf)).trans (heap_alloc_new w1.drew (.cells z56 56))
        obtain ⟨w3, hst, hg3, ev3⟩ := store56 w2 w1.heap.size _ (tcells t.count (.slice S 8 cs) (.slice (some ⟨rb, ro, none⟩) 2 ce) (.slice L ll.length cl) (.slice T t.trace.length ct)) hg rfl rfl (tcells_one ..)
        have Hst := Lib.hid hst
        clear hst
        repeat
          first
          | (apply plan_read
             · (simp only [List.getElem?_toArray, List.getElem?_cons_succ, List.getElem?_cons_zero]; rfl)
             · rfl
             · (intro w' hSw; (first | subst hSw | (try dsimp only at hSw)); go_simp; (try go_bits); (try with_reducible rfl))
             simp only [Act.put, List.setIfInBounds_toArray, List.set_cons_zero, List.set_cons_succ])
          | (apply plan_pass
             · (simp only [List.getElem?_toArray, List.getElem?_cons_succ, List.getElem?_cons_zero]; rfl)
             · rfl
             simp only [Act.put, List.setIfInBounds_toArray, List.set_cons_zero, List.set_cons_succ])
        first | apply plan_act | apply plan_op
        · (simp only [List.getElem?_toArray, List.getElem?_cons_succ, List.getElem?_cons_zero]; rfl)
        · rfl
        refine wp_void (run_op_store rfl Hst.out) ⟨KK.out _ ((((Evo.refl _ w1.drew).alloc _).two ev2).trans ev3 (fun k hk => .inr (by have : k = w1.heap.size := hk; simp; omega))), ?_⟩
        try simp only [Act.put, List.setIfInBounds_toArray, List.set_cons_zero, List.set_cons_succ]
        repeat
          first
          | (apply plan_read
             · (simp only [List.getElem?_toArray, List.getElem?_cons_succ, List.getElem?_cons_zero]; rfl)
             · rfl
             · (intro w' hSw; (first | subst hSw | (try dsimp only at hSw)); go_simp; (try go_bits); (try with_reducible rfl))
             simp only [Act.put, List.setIfInBounds_toArray, List.set_cons_zero, List.set_cons_succ])
          | (apply plan_pass
             · (simp only [List.getElem?_toArray, List.getElem?_cons_succ, List.getElem?_cons_zero]; rfl)
             · rfl
             simp only [Act.put, List.setIfInBounds_toArray, List.set_cons_zero, List.set_cons_succ])
        refine plan_done ?_
        go_wp2_with fail
        go_meet
        exact ⟨_, B, d, rfl, rfl, Mid.mkB hB1 ev2 ev3 hg3 hsB⟩
    case rest =>
      obtain ⟨g, B, d, rfl, rfl, hM⟩ := hcut
      have hldg := load56 _ g _ hM.b3 rfl
      have hN4 := fun (wx : World) (he : Evo (fun _ => False) w wx) k hk => Nat.lt_of_lt_of_le (hN k hk) he.size
      have hnote := rnote_walk N _ t.count S (some ⟨rb, ro, none⟩) L T 8 cs 2 ce ll.length cl ct (hN4 _ hM.box.ev) (hD.trace.evo0 hM.box.ev) hb.tlen 3 K 0 (.slice B tl.length d) tl hM.src
      have Hldg := Lib.hid hldg
      clear hldg
      go_wp2_with (refine wpList_run rfl (run_op_load rfl Hldg.out) ?_)
      refine hnote.mono ?_
      rintro e w4 ⟨T', ct', rfl, hT', hfr, ev4⟩
      have hB4 := hM.box.evo ev4
      obtain ⟨w5, hst, hc5, ev5, ev45⟩ := hB4.put _ rfl (tcells_one (t.count.note 3 K 0 tl) S (some ⟨rb, ro, none⟩) L T' 8 cs 2 ce ll.length cl (t.count.note 3 K 0 tl).trace.length ct')
      have hTf : TrN N w5 (.slice T' (t.count.note 3 K 0 tl).trace.length ct') (t.count.note 3 K 0 tl).trace := hT'.keepZ ev45 hB4.b2 (fun ad e => by have := (hfr ad e).1; have := heap_lt hM.box.b2; omega)
      have hsf : SrcN N w5 1 (.slice B tl.length d) tl.length (bys tl) := (hM.src.evo0 ev4).keepZ ev45 hB4.b2
      have Hst := Lib.hid hst
      have Hc5 := Lib.hid hc5
      clear hst hc5
      go_wp2_with (refine wpList_void rfl (run_op_store rfl Hst.out) ?_)
      refine bodyPost_ret (v := .tuple #[.agg (tcells (t.count.note 3 K 0 tl) (.slice S 8 cs) (.slice (some ⟨rb, ro, none⟩) 2 ce) (.slice L ll.length cl) (.slice T' (t.count.note 3 K 0 tl).trace.length ct')), .slice B tl.length d]) (by simp [results, Try.results43, go_sem, Hc5.out, tcells]) rfl
        ⟨_, B, d, rfl, ⟨S, _, L, T', cs, ce, cl, ct', sl, ll, rfl, ⟨hD.slots.evo0 ev5, hD.slen, hD.sat, hD.seals.evo0 ev5, hD.lies.evo0 ev5, hD.last, hTf, hD.blocks, (hD.evo0 ev5).kS, (hD.evo0 ev5).kE, (hD.evo0 ev5).kL, fun ad e => (hfr ad e).2.evo ev45 (fun hf => (hfr ad e).2.ne ⟨_, _, hB4.b2⟩ (by decide) hf)⟩, hll⟩, hsf, ev5⟩

end Go.Proofs.Ytnndkameadlkdaa
