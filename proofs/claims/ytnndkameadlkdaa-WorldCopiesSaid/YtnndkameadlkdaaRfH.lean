/- The walk of the reference's Seal. -/
import Derived.Test.YtnndkameadlkdaaRfG
namespace Go.Proofs.Ytnndkameadlkdaa
open Go.RowKit

set_option maxRecDepth 100000 in
set_option maxHeartbeats 2000000 in
theorem rseal_walk (N : Nat → Prop) (w : World) (hN : ∀ k, N k → k < w.heap.size) (v : Value) (t : WS) (n : Nat) (h : RefT N w v t n) (hn : n ≤ 1000) (hb : Bd t) (i : Int) (bv : Value) (l : List Int) (hl : SrcN N w 1 bv l.length (bys l)) (hl1 : l.length ≤ 100000) :
    Calls Try.prog 44 #[v, .int .i64 i, bv] w fun e w' => ∃ v', e = .returned (.tuple #[v', .bool (t.sealB i l)]) ∧ RefT N w' v' (t.sealing i l) n ∧ Evo (fun _ => False) w w' := by
  obtain ⟨S, E, L, T, cs, ce, cl, ct, sl, ll, rfl, hD, hll⟩ := h
  obtain ⟨BV, cv, rfl, hcv⟩ : ∃ A c, bv = .slice A l.length c ∧ l.length ≤ c := by obtain ⟨A, c, e, h, _⟩ := hl.1; exact ⟨A, c, e, h⟩
  obtain ⟨C, hC⟩ : ∃ C, C = tcells t (.slice S 8 cs) (.slice E 2 ce) (.slice L ll.length cl) (.slice T t.trace.length ct) := ⟨_, rfl⟩
  have hB0 : ∀ d, t.dead = d → Boxes w ((w.alloc (.cells #[.int .i64 t.blocks, .slice S 8 cs, .slice E 2 ce, .int .u64 t.counter, .slice L ll.length cl, .int .i64 t.reads, .bool t.armed, .int .i64 t.power, .bool d, .slice T t.trace.length ct] 56)).alloc (.cells #[.int .i64 0, .slice none 0 0, .slice none 0 0, .int .u64 0, .slice none 0 0, .int .i64 0, .bool false, .int .i64 0, .bool false, .slice none 0 0] 56))
      (tcells t (.slice S 8 cs) (.slice E 2 ce) (.slice L ll.length cl) (.slice T t.trace.length ct)) := by
    rintro d rfl
    exact Boxes.start w _
  have HB0 := Lib.hid hB0
  clear hB0
  cases ht : t.sealed i with
  | false =>
    have e1 : t.sealing i l = t := by simp [WS.sealing, ht]
    have e2 : t.sealB i l = false := by simp [WS.sealB, ht]
    rw [e1, e2]
    have hn2 := sealed_not ht
    have hB1 := HB0.out _ rfl
    obtain ⟨w2, hst, hc2, ev2, _⟩ := hB1.put _ rfl (tcells_one t S E L T 8 cs 2 ce ll.length cl t.trace.length ct)
    have hD2 := hD.evo0 ev2
    unfold tcells at hst hc2
    unfold tcells
    have Hst := Lib.hid hst
    have Hc2 := Lib.hid hc2
    have HD2 := Lib.hid hD2
    have hcase : t.dead = true ∨ (t.dead = false ∧ i < 0) ∨ (t.dead = false ∧ 1 < i) := by
      cases hd : t.dead
      · right
        by_cases h0 : i < 0
        · exact .inl ⟨rfl, h0⟩
        · exact .inr ⟨rfl, by simp [hd] at hn2; omega⟩
      · exact .inl rfl
    have HTC : Hid (∀ d, t.dead = d → (Value.agg #[.int .i64 t.blocks, .slice S 8 cs, .slice E 2 ce, .int .u64 t.counter, .slice L ll.length cl, .int .i64 t.reads, .bool t.armed, .int .i64 t.power, .bool d, .slice T t.trace.length ct]) = .agg (tcells t (.slice S 8 cs) (.slice E 2 ce) (.slice L ll.length cl) (.slice T t.trace.length ct))) := by rintro d rfl; rfl
    clear e1 e2 ht hC hst hc2 hB1 hn2 hD2
    rcases hcase with hd | ⟨hd, h0⟩ | ⟨hd, h0⟩
    · rw [hd] at Hst Hc2 ⊢
      have Hd := Lib.hid hd
      clear hd
      go_enter Try.func44, Try.ntmps44
      go_wp2_with (first | (refine wpList_void rfl (run_op_store rfl Hst.out) ?_))
      refine bodyPost_ret (v := .tuple #[.agg #[.int .i64 t.blocks, .slice S 8 cs, .slice E 2 ce, .int .u64 t.counter, .slice L ll.length cl, .int .i64 t.reads, .bool t.armed, .int .i64 t.power, .bool true, .slice T t.trace.length ct], .bool false]) (by simp [results, Try.results44, go_sem, Hc2.out]) rfl ⟨_, rfl, ⟨S, E, L, T, cs, ce, cl, ct, sl, ll, HTC.out _ Hd.out, HD2.out, hll⟩, ev2⟩
    · rw [hd] at Hst Hc2 ⊢
      have Hd := Lib.hid hd
      clear hd
      go_enter Try.func44, Try.ntmps44
      go_wp2_with (first | (refine wpList_void rfl (run_op_store rfl Hst.out) ?_))
      refine bodyPost_ret (v := .tuple #[.agg #[.int .i64 t.blocks, .slice S 8 cs, .slice E 2 ce, .int .u64 t.counter, .slice L ll.length cl, .int .i64 t.reads, .bool t.armed, .int .i64 t.power, .bool false, .slice T t.trace.length ct], .bool false]) (by simp [results, Try.results44, go_sem, Hc2.out]) rfl ⟨_, rfl, ⟨S, E, L, T, cs, ce, cl, ct, sl, ll, HTC.out _ Hd.out, HD2.out, hll⟩, ev2⟩
    · rw [hd] at Hst Hc2 ⊢
      have h0' : 0 ≤ i := by omega
      have Hd := Lib.hid hd
      clear hd
      go_enter Try.func44, Try.ntmps44
      go_wp2_with (first | (refine wpList_void rfl (run_op_store rfl Hst.out) ?_))
      refine bodyPost_ret (v := .tuple #[.agg #[.int .i64 t.blocks, .slice S 8 cs, .slice E 2 ce, .int .u64 t.counter, .slice L ll.length cl, .int .i64 t.reads, .bool t.armed, .int .i64 t.power, .bool false, .slice T t.trace.length ct], .bool false]) (by simp [results, Try.results44, go_sem, Hc2.out]) rfl ⟨_, rfl, ⟨S, E, L, T, cs, ce, cl, ct, sl, ll, HTC.out _ Hd.out, HD2.out, hll⟩, ev2⟩
  | true =>
    obtain ⟨tn, htn⟩ : ∃ u, u = t.note 4 i 0 l := ⟨_, rfl⟩
    obtain ⟨tt, htt⟩ : ∃ u, u = tn.takes l.length := ⟨_, rfl⟩
    obtain ⟨kN, hkN⟩ : ∃ k : Nat, (k : Int) = tn.takesN l.length := ⟨(tn.takesN l.length).toNat, by
      have : 0 ≤ tn.takesN l.length := by
        have hp : tn.power = t.power := by rw [htn]; rfl
        have := hb.power0
        unfold WS.takesN; split <;> omega
      omega⟩
    have hkl : kN ≤ l.length := by
      have : tn.takesN l.length ≤ l.length := by unfold WS.takesN; split <;> omega
      omega
    obtain ⟨nx, hnx⟩ : ∃ x, x = WS.sealTo (t.seals i) l (kN : Int) := ⟨_, rfl⟩
    have e1 : t.sealing i l = tt.setSeal i nx := by
      rw [hnx, hkN, htt, htn]
      simp [WS.sealing, ht]
      rfl
    have e2 : t.sealB i l = !tt.dead := by
      rw [htt, htn, takes_note_dead]
      simp only [WS.sealB, ht, Bool.true_and]
    rw [e1, e2]
    obtain ⟨hd, hi01⟩ := sealed_of ht
    have hi0 : 0 ≤ i := by omega
    have hi1 : i ≤ 1 := by omega
    obtain ⟨K, hK⟩ : ∃ K : Nat, (K : Int) = i := ⟨i.toNat, by omega⟩
    have hx : ([t.seals 0, t.seals 1] : List (List Int))[K]? = some (t.seals i) := by
      rcases hi01 with rfl | rfl
      · obtain rfl : K = 0 := by omega
        rfl
      · obtain rfl : K = 1 := by omega
        rfl
    have hset : ∀ u : WS, u.seals = t.seals → ([t.seals 0, t.seals 1] : List (List Int)).set K nx = [(u.setSeal i nx).seals 0, (u.setSeal i nx).seals 1] := by
      intro u hu
      rcases hi01 with rfl | rfl
      · obtain rfl : K = 0 := by omega
        simp [WS.setSeal, hu]
      · obtain rfl : K = 1 := by omega
        simp [WS.setSeal, hu]
    have hKz : (K : Int) < 2 := by omega
    have hK2 : K < 2 := by omega
    have hesl : (t.seals i).length ≤ 100000 := by
      rcases hi01 with rfl | rfl
      · exact hb.e0
      · exact hb.e1
    have hnxA : kN = l.length → nx = l := by
      intro e
      rw [hnx, e]
      simp [WS.sealTo]
    have hnxB : kN < l.length → nx = WS.over (t.seals i) l (kN : Int) := by
      intro e
      rw [hnx]
      unfold WS.sealTo WS.over
      congr 1
      split
      · rfl
      · rename_i h
        rw [List.drop_eq_nil_of_le]
        omega
    have Htn := Lib.hid htn
    have Htt := Lib.hid htt
    have HkN := Lib.hid hkN
    have HSET := Lib.hid hset
    have hdn : tn.dead = false := by rw [htn]; exact hd
    have hpn : tn.power = t.power := by rw [htn]; rfl
    have Hdn := Lib.hid hdn
    have Hpn := Lib.hid hpn
    have HnxA := Lib.hid hnxA
    have HnxB := Lib.hid hnxB
    have HC := Lib.hid hC
    subst hK
    have hB1 := HB0.out _ hd
    clear e1 e2 ht hC hset htn htt hkN hnx hdn hpn hi01 hnxA hnxB
    unfold tcells
    rw [hd]
    clear hd
    obtain ⟨rb, ro, RB, rd', rfl, hKn, hnc, hcK0, hsrc⟩ := hD.seals.at hx
    have Hx := Lib.hid hx
    clear hx
    obtain ⟨w1, hw1e⟩ : ∃ w1, ((w.alloc (.cells #[.int .i64 t.blocks, .slice S 8 cs, .slice (some ⟨rb, ro, none⟩) 2 ce, .int .u64 t.counter, .slice L ll.length cl, .int .i64 t.reads, .bool t.armed, .int .i64 t.power, .bool false, .slice T t.trace.length ct] 56)).alloc (.cells #[.int .i64 0, .slice none 0 0, .slice none 0 0, .int .u64 0, .slice none 0 0, .int .i64 0, .bool false, .int .i64 0, .bool false, .slice none 0 0] 56)) = w1 := ⟨_, rfl⟩
    rw [hw1e] at hB1
    have hld := hB1.load rfl
    rw [← hw1e] at hld
    have Hld := Lib.hid hld
    clear hld
    have hN4 := fun (wx : World) (he : Evo (fun _ => False) w wx) k hk => Nat.lt_of_lt_of_le (hN k hk) he.size
    have hnote := rnote_walk N w1 t S (some ⟨rb, ro, none⟩) L T 8 cs 2 ce ll.length cl ct (hN4 _ hB1.ev) (hD.trace.evo0 hB1.ev) hb.tlen 4 K 0 (.slice BV l.length cv) l (hl.evo0 hB1.ev)
    rw [← Htn.out, ← hw1e] at hnote
    have Hnote := Lib.hid hnote
    have HW1E := Lib.hid hw1e
    clear hw1e hnote
    go_enter Try.func44, Try.ntmps44
    go_wp2_with (refine wpList_run rfl (run_op_load rfl Hld.out) ?_)
    refine Hnote.out.mono ?_
    rintro e w2 ⟨T', ct', rfl, hT', hfr, ev2⟩
    rw [HW1E.out] at ev2 hfr
    have hB2 := hB1.evo ev2
    have htk := rtakes_walk (w2.alloc (.cells (tcells tn (.slice S 8 cs) (.slice (some ⟨rb, ro, none⟩) 2 ce) (.slice L ll.length cl) (.slice T' tn.trace.length ct')) 56)) tn S (some ⟨rb, ro, none⟩) L T' 8 cs 2 ce ll.length cl tn.trace.length ct' l.length (by omega) (by omega) (by rw [Hpn.out]; exact hb.power0) (by rw [Hpn.out]; exact hb.power1) Hdn.out
    rw [← Htt.out, ← HkN.out] at htk
    have Htk := Lib.hid htk
    have hld3 := load56 (w2.alloc (.cells (tcells tn (.slice S 8 cs) (.slice (some ⟨rb, ro, none⟩) 2 ce) (.slice L ll.length cl) (.slice T' tn.trace.length ct')) 56)) w2.heap.size _ (heap_alloc_new _ _) rfl
    have Hld3 := Lib.hid hld3
    clear htk hld3
    go_wp2_with (first | (refine wpList_run rfl (run_op_alloc rfl (alloc56 _)) ?_) | (refine wpList_void rfl (run_op_store rfl (store56_new _ _ rfl (tcells_one ..))) ?_) | (refine wpList_run rfl (run_op_load rfl Hld3.out) ?_))
    refine Htk.out.mono ?_
    rintro e w4 ⟨rfl, ev4⟩
    have e24 : Evo (fun _ => False) w2 w4 := ((Evo.refl (fun _ => False) w2).alloc _).two ev4
    rcases Nat.lt_or_ge kN l.length with hlt | hge
    · have hltz : (kN : Int) < (l.length : Int) := by omega
      have hneb : ((kN : Int) == (l.length : Int)) = false := by simp; omega
      have Hnx := Lib.hid (HnxB.out hlt)
      go_wp2_with (first | (refine wpList_run rfl (run_op_alloc rfl (alloc56 _)) ?_) | (refine wpList_void rfl (run_op_store rfl (store56_new _ _ rfl (tcells_one ..))) ?_))
      obtain ⟨W5, hW5⟩ : ∃ W, W = (w4.alloc (.cells (tcells tt (.slice S 8 cs) (.slice (some ⟨rb, ro, none⟩) 2 ce) (.slice L ll.length cl) (.slice T' tn.trace.length ct')) 56)).drew := ⟨_, rfl⟩
      have e45 : Evo (fun _ => False) w4 W5 := by rw [hW5]; exact ((Evo.refl _ w4).alloc _).drew
      have eW5 : Evo (fun _ => False) w W5 := (hB2.ev.two e24).two e45
      have b5 : W5.heap[w4.heap.size]? = some (.cells (tcells tt (.slice S 8 cs) (.slice (some ⟨rb, ro, none⟩) 2 ce) (.slice L ll.length cl) (.slice T' tn.trace.length ct')) 56 (0, 0)) := by rw [hW5]; exact heap_alloc_new _ _
      have z5 : W5.heap.size = w4.heap.size + 1 := by rw [hW5]; simp
      have kV : W5.cell? ⟨w4.heap.size, 2, none⟩ = some (.slice (some ⟨rb, ro, none⟩) 2 ce) := blk_cell b5 2
      have hcK := (eW5.cell (World.block_lt_of_cell? _ _ hcK0) (fun hf => hf)).trans hcK0
      have hov := rover_walk N W5 (hN4 _ eW5) (.slice RB (t.seals K).length rd') (.slice BV l.length cv) (t.seals K) l (hsrc.1.evo eW5 (fun _ _ _ hf => hf)) (hl.1.evo eW5 (fun _ _ _ hf => hf)) kN (by omega) hesl hl1
      rw [← Hnx.out] at hov
      have HOV := Lib.hid hov
      have HW5 := Lib.hid hW5
      clear hov hW5 hcK0
      refine wp_region_seq_drop (fun w' => w'.cell? ⟨w4.heap.size, 2, none⟩ = some (.slice (some ⟨rb, ro, none⟩) 2 ce) ∧ w'.cell? ⟨rb, ro + K, none⟩ = some (.slice RB (t.seals K).length rd')) [0, 1, 2, 3, 4, 5, 6, 7, 8, 9, 12] [0, 1, 2, 3, 4, 5, 6, 7, 8, 9, 10, 11, 12] 13 (by kernel_rfl) rfl (by kernel_rfl) (by kernel_rfl) (by kernel_rfl) rfl (by kernel_rfl) (fun _ _ _ _ _ h => h) ((by rw [← HW5.out]; exact ⟨kV, hcK⟩)) ?_
      dsimp only [List.dropLast]
      rw [← HW5.out]
      repeat
        apply seq_read (by rfl)
        · (simp only [List.getElem?_toArray, List.getElem?_cons_succ, List.getElem?_cons_zero]; rfl)
        · rfl
        · (intro w' hSw; (first | subst hSw | (try dsimp only at hSw)); go_simp; (try go_bits); (try with_reducible rfl))
        simp only [Act.put, List.setIfInBounds_toArray, List.set_cons_zero, List.set_cons_succ]
      apply seq_act (by rfl)
      · (simp only [List.getElem?_toArray, List.getElem?_cons_succ, List.getElem?_cons_zero]; rfl)
      · rfl
      refine wp_k (fun K hK => ?_)
      go_simp
      refine (HOV.out).mono ?_
      rintro e w6 ⟨OA, oc, rfl, hos, ev6⟩
      refine hK _ _ ⟨⟨(ev6.cell (World.block_lt_of_cell? _ _ kV) (fun hf => hf)).trans kV, (ev6.cell (World.block_lt_of_cell? _ _ hcK) (fun hf => hf)).trans hcK⟩, ?_⟩
      clear hK K
      try simp only [Act.put, List.setIfInBounds_toArray, List.set_cons_zero, List.set_cons_succ]
      have kV6 := (ev6.cell (World.block_lt_of_cell? _ _ kV) (fun hf => hf)).trans kV
      have hcK6 := (ev6.cell (World.block_lt_of_cell? _ _ hcK) (fun hf => hf)).trans hcK
      have hwi := rwith_walk N w6 (hN4 _ (eW5.two ev6)) (.slice (some ⟨rb, ro, none⟩) 2 ce) (.slice OA nx.length oc) [t.seals 0, t.seals 1] nx (hD.seals.evo0 (eW5.two ev6)) K hK2 (by simp) hos
      have hwi : Calls Try.prog 54 #[.slice (some ⟨rb, ro, none⟩) 2 ce, .int .i64 (K : Int), .slice OA nx.length oc] w6 fun e w' => ∃ A c, e = .returned (.slice A 2 c) ∧ RowOf N w' (.slice A 2 c) ([t.seals 0, t.seals 1].set K nx) ∧ (∀ ad, A = some ad → w6.heap.size ≤ ad.block ∧ KindN N w' 22 ad.block) ∧ Evo (fun _ => False) w6 w' := hwi
      have Hwi := Lib.hid hwi
      clear hwi
      repeat
        apply seq_read (by rfl)
        · (simp only [List.getElem?_toArray, List.getElem?_cons_succ, List.getElem?_cons_zero]; rfl)
        · rfl
        · (intro w' hSw; (first | subst hSw | (try dsimp only at hSw)); go_simp; (try go_bits); (try with_reducible rfl))
        simp only [Act.put, List.setIfInBounds_toArray, List.set_cons_zero, List.set_cons_succ]
      apply seq_act (by rfl)
      · (simp only [List.getElem?_toArray, List.getElem?_cons_succ, List.getElem?_cons_zero]; rfl)
      · rfl
      refine wp_k (fun K hK => ?_)
      go_simp
      refine (Hwi.out).mono ?_
      rintro e w7 ⟨A9, c9, rfl, hrow, hfr9, ev7⟩
      refine hK _ _ ⟨⟨(ev7.cell (World.block_lt_of_cell? _ _ kV6) (fun hf => hf)).trans kV6, (ev7.cell (World.block_lt_of_cell? _ _ hcK6) (fun hf => hf)).trans hcK6⟩, ?_⟩
      clear hK K
      try simp only [Act.put, List.setIfInBounds_toArray, List.set_cons_zero, List.set_cons_succ]
      have kV7 := (ev7.cell (World.block_lt_of_cell? _ _ kV6) (fun hf => hf)).trans kV6
      have b7 := ((ev6.two ev7).block _ (heap_lt b5) (fun hf => hf)).trans b5
      have fV7 : w7.frozen? ⟨w4.heap.size, 2, none⟩ = false := blk_frozen b7 2
      repeat
        apply seq_read (by rfl)
        · (simp only [List.getElem?_toArray, List.getElem?_cons_succ, List.getElem?_cons_zero]; rfl)
        · rfl
        · (intro w' hSw; (first | subst hSw | (try dsimp only at hSw)); go_simp; (try go_bits); (try with_reducible rfl))
        simp only [Act.put, List.setIfInBounds_toArray, List.set_cons_zero, List.set_cons_succ]
      refine seq_nil ?_
      apply last_act
      · (simp only [List.getElem?_toArray, List.getElem?_cons_succ, List.getElem?_cons_zero]; rfl)
      · rfl
      refine wp_k (fun K hK => ?_)
      go_simp
      refine hK _ _ ?_
      clear hK K
      try simp only [Act.put, List.setIfInBounds_toArray, List.set_cons_zero, List.set_cons_succ]
      obtain ⟨W8, hW8⟩ : ∃ W, w7.setCell ⟨w4.heap.size, 2, none⟩ (.slice A9 2 c9) = W := ⟨_, rfl⟩
      rw [hW8]
      have e57 := ev6.two ev7
      have ew7 : Evo (fun _ => False) w w7 := eW5.two e57
      have b7r := ((e24.two (e45.two e57)).block _ (heap_lt hB2.b2) (fun hf => hf)).trans hB2.b2
      have b8 : W8.heap[w4.heap.size]? = some (.cells (tcells tt (.slice S 8 cs) (.slice A9 2 c9) (.slice L ll.length cl) (.slice T' tn.trace.length ct')) 56 (0, 0)) := by rw [← hW8]; exact blk_set b7 2 _
      have e78 : Evo (fun k => k = w4.heap.size) w7 W8 := by rw [← hW8]; exact (Evo.refl (fun k => k = w4.heap.size) w7).setCell (p := ⟨w4.heap.size, 2, none⟩) (.inl rfl) _
      have hw4 : w.heap.size + 1 < w4.heap.size := by have := heap_lt hB2.b2; have := e24.size; omega
      have b8r : W8.heap[w.heap.size + 1]? = some (.cells z56 56 (0, 0)) := (e78.block _ (heap_lt b7r) (fun e => by have e : w.heap.size + 1 = w4.heap.size := e; omega)).trans b7r
      obtain ⟨w9, hst, hg9, e89⟩ := store56 W8.drew _ _ (tcells tt (.slice S 8 cs) (.slice A9 2 c9) (.slice L ll.length cl) (.slice T' tn.trace.length ct')) b8r rfl rfl (tcells_one ..)
      have hc9 := blk_cell hg9
      have e79 : Evo (fun k => k = w4.heap.size ∨ k = w.heap.size + 1) w7 w9 := (e78.mono (F' := fun k => k = w4.heap.size ∨ k = w.heap.size + 1) (fun k hk => .inl hk)).drew.trans ((e89.mono (F' := fun k => k = w4.heap.size ∨ k = w.heap.size + 1) (fun k hk => .inr hk))) (fun k hk => .inl hk)
      have ew9 : Evo (fun _ => False) w w9 := ew7.trans e79 (fun k hk => .inr (by rcases hk with hk | hk <;> omega))
      have hbx : Boxed (fun k => k = w4.heap.size ∨ k = w.heap.size + 1) w7 := by
        rintro k (rfl | rfl)
        · exact ⟨_, b7, fun n => tcells_u8 _ _ _ _ _ _ _ _ _ _ _ _ _ n⟩
        · exact ⟨_, b7r, z56_u8⟩
      have hrow9 : RowOf N w9 (.slice A9 2 c9) ([t.seals 0, t.seals 1].set K nx) := hrow.keepF e79 hbx (fun ad e hf => by
        have := (hfr9 ad e).1
        have := ev6.size
        rcases hf with hf | hf <;> omega)
      have hTl : 0 < tn.trace.length := by rw [Htn.out]; simp [WS.note]
      have hT9 : TrN N w9 (.slice T' tn.trace.length ct') tn.trace := (hT'.evo0 (e24.two (e45.two e57))).keepF e79 hbx (fun ad e hf => by
        subst e
        have h1 := (hfr ad rfl).1
        have h2 := hT'.src.lt hTl
        have := heap_lt hB1.b2
        have := e24.size
        rcases hf with hf | hf <;> omega)
      have kA9 : ∀ ad, A9 = some ad → KindN N w9 22 ad.block := fun ad e => (hfr9 ad e).2.evo e79 (hbx.not (by decide) (hfr9 ad e).2)
      have kT9 : ∀ ad, T' = some ad → KindN N w9 52 ad.block := fun ad e => by
        have h1 := ((hfr ad e).2.evo (e24.two (e45.two e57)) (fun hf => hf))
        exact h1.evo e79 (hbx.not (by decide) h1)
      have b9 : w9.heap[w4.heap.size]? = some (.cells (tcells tt (.slice S 8 cs) (.slice A9 2 c9) (.slice L ll.length cl) (.slice T' tn.trace.length ct')) 56 (0, 0)) := (e89.block _ (heap_lt b8) (fun e => by have e : w4.heap.size = w.heap.size + 1 := e; omega)).trans b8
      have Hst := Lib.hid hst
      have Hc9 := Lib.hid hc9
      have HWB : Hid (tt.slots = t.slots ∧ tt.seals = t.seals ∧ tt.lies = t.lies ∧ tt.trace = tn.trace ∧ tt.blocks = t.blocks) := by
        have := takes_slices tn l.length
        rw [← Htt.out] at this
        rw [Htn.out] at this
        rw [Htn.out]
        exact this
      clear hst hc9 hW8 hg9 e78 e79 e57 hbx b7 b7r b5 hrow hT'
      go_wp2
      refine wp_region_plan (fun w' => w'.heap[w4.heap.size]? = some (.cells (tcells tt (.slice S 8 cs) (.slice A9 2 c9) (.slice L ll.length cl) (.slice T' tn.trace.length ct')) 56 (0, 0)) ∧ w'.cell? ⟨w4.heap.size, 8, none⟩ = some (.bool tt.dead)) (.rds [0, 1, 2, 3] (.act 4 (.rd 5 .done))) 6 (by kernel_rfl) (by kernel_rfl) (by rfl) (by kernel_rfl) (fun _ _ _ _ _ h => h) (⟨b8, blk_cell b8 8⟩) ?_
      try simp only [Plan.rds]
      apply plan_read
      · (simp only [List.getElem?_toArray, List.getElem?_cons_succ, List.getElem?_cons_zero]; rfl)
      · rfl
      · (intro w' hSw; exact run_op_load rfl (load56 _ _ _ hSw.1 rfl))
      simp only [Act.put, List.setIfInBounds_toArray, List.set_cons_zero, List.set_cons_succ]
      repeat
        first
        | (apply plan_read
           · (simp only [List.getElem?_toArray, List.getElem?_cons_succ, List.getElem?_cons_zero]; rfl)
           · rfl
           · (intro w' hSw; (first | subst hSw | (try dsimp only at hSw)); go_simp; (try go_bits); (try with_reducible rfl))
           simp only [Act.put, List.setIfInBounds_toArray, List.set_cons_zero, List.set_cons_succ])
        | (apply plan_pass
           · (simp only [List.getElem?_toArray, List.getElem?_cons_succ, List.getElem?_cons_zero]; rfl)
           · rfl
           simp only [Act.put, List.setIfInBounds_toArray, List.set_cons_zero, List.set_cons_succ])
      first | apply plan_act | apply plan_op
      · (simp only [List.getElem?_toArray, List.getElem?_cons_succ, List.getElem?_cons_zero]; rfl)
      · rfl
      refine wp_void (run_op_store rfl Hst.out) ⟨⟨b9, blk_cell b9 8⟩, ?_⟩
      try simp only [Act.put, List.setIfInBounds_toArray, List.set_cons_zero, List.set_cons_succ]
      repeat
        first
        | (apply plan_read
           · (simp only [List.getElem?_toArray, List.getElem?_cons_succ, List.getElem?_cons_zero]; rfl)
           · rfl
           · (intro w' hSw; (first | subst hSw | (try dsimp only at hSw)); go_simp; (try go_bits); (try with_reducible rfl))
           simp only [Act.put, List.setIfInBounds_toArray, List.set_cons_zero, List.set_cons_succ])
        | (apply plan_pass
           · (simp only [List.getElem?_toArray, List.getElem?_cons_succ, List.getElem?_cons_zero]; rfl)
           · rfl
           simp only [Act.put, List.setIfInBounds_toArray, List.set_cons_zero, List.set_cons_succ])
      refine plan_done ?_
      go_wp2
      refine bodyPost_ret (v := .tuple #[.agg (tcells tt (.slice S 8 cs) (.slice A9 2 c9) (.slice L ll.length cl) (.slice T' tn.trace.length ct')), .bool (!tt.dead)]) (by simp [results, Try.results44, go_sem, Hc9.out, tcells]) rfl ⟨_, rfl, ?_, ew9⟩
      obtain ⟨q1, q2, q3, q4, q5⟩ := HWB.out
      refine ⟨S, A9, L, T', cs, c9, cl, ct', sl, ll, ?_, ⟨hD.slots.evo0 ew9, hD.slen, ?_, ?_, hD.lies.evo0 ew9, ?_, ?_, ?_, (hD.evo0 ew9).kS, kA9, (hD.evo0 ew9).kL, kT9⟩, hll⟩
      · show Value.agg (tcells tt _ _ _ _) = Value.agg (tcells tt _ _ _ (.slice T' tt.trace.length ct'))
        rw [q4]
      · intro a' s' h1 h2 h3
        show _ = some (tt.slots a' s')
        rw [q1]
        exact hD.sat a' s' h1 h2 h3
      · rw [HSET.out tt q2] at hrow9
        exact hrow9
      · intro m
        show _ = tt.lies m
        rw [q3]
        exact hD.last m
      · show TrN N w9 (.slice T' tt.trace.length ct') tt.trace
        rw [q4]
        exact hT9
      · show tt.blocks = 4
        rw [q5]
        exact hD.blocks
    · obtain rfl : kN = l.length := by omega
      have Hnx := Lib.hid (HnxA.out rfl)
      have ht2 : (tcells tt (.slice S 8 cs) (.slice (some ⟨rb, ro, none⟩) 2 ce) (.slice L ll.length cl) (.slice T' tn.trace.length ct'))[2]? = some (.slice (some ⟨rb, ro, none⟩) 2 ce) := rfl
      go_wp2_with (first | (refine wpList_run rfl (run_op_alloc rfl (alloc56 _)) ?_) | (refine wpList_void rfl (run_op_store rfl (store56_new _ _ rfl (tcells_one ..))) ?_))
      clear ht2
      obtain ⟨W5, hW5⟩ : ∃ W, W = w4.alloc (.cells (tcells tt (.slice S 8 cs) (.slice (some ⟨rb, ro, none⟩) 2 ce) (.slice L ll.length cl) (.slice T' tn.trace.length ct')) 56) := ⟨_, rfl⟩
      rw [← hW5]
      have e45 : Evo (fun _ => False) w4 W5 := by rw [hW5]; exact (Evo.refl _ w4).alloc _
      have eW5 : Evo (fun _ => False) w W5 := (hB2.ev.two e24).two e45
      have b5 : W5.heap[w4.heap.size]? = some (.cells (tcells tt (.slice S 8 cs) (.slice (some ⟨rb, ro, none⟩) 2 ce) (.slice L ll.length cl) (.slice T' tn.trace.length ct')) 56 (0, 0)) := by rw [hW5]; exact heap_alloc_new _ _
      have z5 : W5.heap.size = w4.heap.size + 1 := by rw [hW5]; simp
      have hwi := rwith_walk N W5 (hN4 _ eW5) (.slice (some ⟨rb, ro, none⟩) 2 ce) (.slice BV l.length cv) [t.seals 0, t.seals 1] l (hD.seals.evo0 eW5) K hK2 (by simp) (hl.evo0 eW5)
      have hwi : Calls Try.prog 54 #[.slice (some ⟨rb, ro, none⟩) 2 ce, .int .i64 (K : Int), .slice BV l.length cv] W5 fun e w' => ∃ A c, e = .returned (.slice A 2 c) ∧ RowOf N w' (.slice A 2 c) ([t.seals 0, t.seals 1].set K l) ∧ (∀ ad, A = some ad → W5.heap.size ≤ ad.block ∧ KindN N w' 22 ad.block) ∧ Evo (fun _ => False) W5 w' := hwi
      refine hwi.mono ?_
      rintro e w7 ⟨A9, c9, rfl, hrow, hfr9, ev7⟩
      rw [← Hnx.out] at hrow
      have b7 := (ev7.block _ (heap_lt b5) (fun hf => hf)).trans b5
      have kV7 : w7.cell? ⟨w4.heap.size, 2, none⟩ = some (.slice (some ⟨rb, ro, none⟩) 2 ce) := blk_cell b7 2
      have fV7 : w7.frozen? ⟨w4.heap.size, 2, none⟩ = false := blk_frozen b7 2
      go_wp2_with fail
      obtain ⟨W8, hW8⟩ : ∃ W, w7.setCell ⟨w4.heap.size, 2, none⟩ (.slice A9 2 c9) = W := ⟨_, rfl⟩
      rw [hW8]
      have e57 := ev7
      have ew7 : Evo (fun _ => False) w w7 := eW5.two e57
      have b7r := ((e24.two (e45.two e57)).block _ (heap_lt hB2.b2) (fun hf => hf)).trans hB2.b2
      have b8 : W8.heap[w4.heap.size]? = some (.cells (tcells tt (.slice S 8 cs) (.slice A9 2 c9) (.slice L ll.length cl) (.slice T' tn.trace.length ct')) 56 (0, 0)) := by rw [← hW8]; exact blk_set b7 2 _
      have e78 : Evo (fun k => k = w4.heap.size) w7 W8 := by rw [← hW8]; exact (Evo.refl (fun k => k = w4.heap.size) w7).setCell (p := ⟨w4.heap.size, 2, none⟩) (.inl rfl) _
      have hw4 : w.heap.size + 1 < w4.heap.size := by have := heap_lt hB2.b2; have := e24.size; omega
      have b8r : W8.heap[w.heap.size + 1]? = some (.cells z56 56 (0, 0)) := (e78.block _ (heap_lt b7r) (fun e => by have e : w.heap.size + 1 = w4.heap.size := e; omega)).trans b7r
      obtain ⟨w9, hst, hg9, e89⟩ := store56 W8.drew _ _ (tcells tt (.slice S 8 cs) (.slice A9 2 c9) (.slice L ll.length cl) (.slice T' tn.trace.length ct')) b8r rfl rfl (tcells_one ..)
      have hc9 := blk_cell hg9
      have e79 : Evo (fun k => k = w4.heap.size ∨ k = w.heap.size + 1) w7 w9 := (e78.mono (F' := fun k => k = w4.heap.size ∨ k = w.heap.size + 1) (fun k hk => .inl hk)).drew.trans ((e89.mono (F' := fun k => k = w4.heap.size ∨ k = w.heap.size + 1) (fun k hk => .inr hk))) (fun k hk => .inl hk)
      have ew9 : Evo (fun _ => False) w w9 := ew7.trans e79 (fun k hk => .inr (by rcases hk with hk | hk <;> omega))
      have hbx : Boxed (fun k => k = w4.heap.size ∨ k = w.heap.size + 1) w7 := by
        rintro k (rfl | rfl)
        · exact ⟨_, b7, fun n => tcells_u8 _ _ _ _ _ _ _ _ _ _ _ _ _ n⟩
        · exact ⟨_, b7r, z56_u8⟩
      have hrow9 : RowOf N w9 (.slice A9 2 c9) ([t.seals 0, t.seals 1].set K nx) := hrow.keepF e79 hbx (fun ad e hf => by
        have := (hfr9 ad e).1
        rcases hf with hf | hf <;> omega)
      have hTl : 0 < tn.trace.length := by rw [Htn.out]; simp [WS.note]
      have hT9 : TrN N w9 (.slice T' tn.trace.length ct') tn.trace := (hT'.evo0 (e24.two (e45.two e57))).keepF e79 hbx (fun ad e hf => by
        subst e
        have h1 := (hfr ad rfl).1
        have h2 := hT'.src.lt hTl
        have := heap_lt hB1.b2
        have := e24.size
        rcases hf with hf | hf <;> omega)
      have kA9 : ∀ ad, A9 = some ad → KindN N w9 22 ad.block := fun ad e => (hfr9 ad e).2.evo e79 (hbx.not (by decide) (hfr9 ad e).2)
      have kT9 : ∀ ad, T' = some ad → KindN N w9 52 ad.block := fun ad e => by
        have h1 := ((hfr ad e).2.evo (e24.two (e45.two e57)) (fun hf => hf))
        exact h1.evo e79 (hbx.not (by decide) h1)
      have b9 : w9.heap[w4.heap.size]? = some (.cells (tcells tt (.slice S 8 cs) (.slice A9 2 c9) (.slice L ll.length cl) (.slice T' tn.trace.length ct')) 56 (0, 0)) := (e89.block _ (heap_lt b8) (fun e => by have e : w4.heap.size = w.heap.size + 1 := e; omega)).trans b8
      have Hst := Lib.hid hst
      have Hc9 := Lib.hid hc9
      have HWB : Hid (tt.slots = t.slots ∧ tt.seals = t.seals ∧ tt.lies = t.lies ∧ tt.trace = tn.trace ∧ tt.blocks = t.blocks) := by
        have := takes_slices tn l.length
        rw [← Htt.out] at this
        rw [Htn.out] at this
        rw [Htn.out]
        exact this
      clear hst hc9 hW8 hg9 e78 e79 e57 hbx b7 b7r b5 hrow hT'
      refine wp_region_plan (fun w' => w'.heap[w4.heap.size]? = some (.cells (tcells tt (.slice S 8 cs) (.slice A9 2 c9) (.slice L ll.length cl) (.slice T' tn.trace.length ct')) 56 (0, 0)) ∧ w'.cell? ⟨w4.heap.size, 8, none⟩ = some (.bool tt.dead)) (.rds [0, 1, 2, 3] (.act 4 (.rd 5 .done))) 6 (by kernel_rfl) (by kernel_rfl) (by rfl) (by kernel_rfl) (fun _ _ _ _ _ h => h) (⟨b8, blk_cell b8 8⟩) ?_
      try simp only [Plan.rds]
      apply plan_read
      · (simp only [List.getElem?_toArray, List.getElem?_cons_succ, List.getElem?_cons_zero]; rfl)
      · rfl
      · (intro w' hSw; exact run_op_load rfl (load56 _ _ _ hSw.1 rfl))
      simp only [Act.put, List.setIfInBounds_toArray, List.set_cons_zero, List.set_cons_succ]
      repeat
        first
        | (apply plan_read
           · (simp only [List.getElem?_toArray, List.getElem?_cons_succ, List.getElem?_cons_zero]; rfl)
           · rfl
           · (intro w' hSw; (first | subst hSw | (try dsimp only at hSw)); go_simp; (try go_bits); (try with_reducible rfl))
           simp only [Act.put, List.setIfInBounds_toArray, List.set_cons_zero, List.set_cons_succ])
        | (apply plan_pass
           · (simp only [List.getElem?_toArray, List.getElem?_cons_succ, List.getElem?_cons_zero]; rfl)
           · rfl
           simp only [Act.put, List.setIfInBounds_toArray, List.set_cons_zero, List.set_cons_succ])
      first | apply plan_act | apply plan_op
      · (simp only [List.getElem?_toArray, List.getElem?_cons_succ, List.getElem?_cons_zero]; rfl)
      · rfl
      refine wp_void (run_op_store rfl Hst.out) ⟨⟨b9, blk_cell b9 8⟩, ?_⟩
      try simp only [Act.put, List.setIfInBounds_toArray, List.set_cons_zero, List.set_cons_succ]
      repeat
        first
        | (apply plan_read
           · (simp only [List.getElem?_toArray, List.getElem?_cons_succ, List.getElem?_cons_zero]; rfl)
           · rfl
           · (intro w' hSw; (first | subst hSw | (try dsimp only at hSw)); go_simp; (try go_bits); (try with_reducible rfl))
           simp only [Act.put, List.setIfInBounds_toArray, List.set_cons_zero, List.set_cons_succ])
        | (apply plan_pass
           · (simp only [List.getElem?_toArray, List.getElem?_cons_succ, List.getElem?_cons_zero]; rfl)
           · rfl
           simp only [Act.put, List.setIfInBounds_toArray, List.set_cons_zero, List.set_cons_succ])
      refine plan_done ?_
      go_wp2
      refine bodyPost_ret (v := .tuple #[.agg (tcells tt (.slice S 8 cs) (.slice A9 2 c9) (.slice L ll.length cl) (.slice T' tn.trace.length ct')), .bool (!tt.dead)]) (by simp [results, Try.results44, go_sem, Hc9.out, tcells]) rfl ⟨_, rfl, ?_, ew9⟩
      obtain ⟨q1, q2, q3, q4, q5⟩ := HWB.out
      refine ⟨S, A9, L, T', cs, c9, cl, ct', sl, ll, ?_, ⟨hD.slots.evo0 ew9, hD.slen, ?_, ?_, hD.lies.evo0 ew9, ?_, ?_, ?_, (hD.evo0 ew9).kS, kA9, (hD.evo0 ew9).kL, kT9⟩, hll⟩
      · show Value.agg (tcells tt _ _ _ _) = Value.agg (tcells tt _ _ _ (.slice T' tt.trace.length ct'))
        rw [q4]
      · intro a' s' h1 h2 h3
        show _ = some (tt.slots a' s')
        rw [q1]
        exact hD.sat a' s' h1 h2 h3
      · rw [HSET.out tt q2] at hrow9
        exact hrow9
      · intro m
        show _ = tt.lies m
        rw [q3]
        exact hD.last m
      · show TrN N w9 (.slice T' tt.trace.length ct') tt.trace
        rw [q4]
        exact hT9
      · show tt.blocks = 4
        rw [q5]
        exact hD.blocks

end Go.Proofs.Ytnndkameadlkdaa
