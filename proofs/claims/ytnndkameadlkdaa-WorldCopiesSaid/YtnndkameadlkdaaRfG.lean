/- The walk of the reference's Write. -/
import Derived.Test.YtnndkameadlkdaaRfF
namespace Go.Proofs.Ytnndkameadlkdaa
open Go.RowKit

theorem TrSrc.lt {w : World} {ad : Addr} {n c : Nat} {ts : List Tr} (h : TrSrc w (.slice (some ad) n c) ts) (hn : 0 < ts.length) : ad.block < w.heap.size := by
  obtain ⟨us, h1, h2, _⟩ := h
  obtain ⟨ad', c', e, hlt⟩ := h2.block (by rw [trCells_len _ _ h1]; omega)
  cases e
  exact hlt

/-- What the walk says of a world made anew: loads and stores of boxes, as runs. -/
theorem sat_set {t : WS} {sl : List (List Int)} (hs : ∀ a s : Int, 0 ≤ a → a < 4 → (s = 0 ∨ s = 1) → sl[(2 * a + s).toNat]? = some (t.slots a s)) (hl : sl.length = 8) {a s : Int} (ha : 0 ≤ a) (ha4 : a < 4) (hs01 : s = 0 ∨ s = 1) {K : Nat} (hK : (K : Int) = 2 * a + s) (x : List Int) :
    ∀ a' s' : Int, 0 ≤ a' → a' < 4 → (s' = 0 ∨ s' = 1) → (sl.set K x)[(2 * a' + s').toNat]? = some (if a' = a ∧ s' = s then x else t.slots a' s') := by
  intro a' s' h1 h2 h3
  by_cases e : (2 * a' + s').toNat = K
  · have : a' = a ∧ s' = s := by omega
    rw [if_pos this, e, List.getElem?_set_self (by omega)]
  · have : ¬ (a' = a ∧ s' = s) := by omega
    rw [if_neg this, List.getElem?_set_ne (fun h => e h.symm)]
    exact hs a' s' h1 h2 h3

theorem takes_note_dead (t : WS) (k a s : Int) (l : List Int) (n : Int) : ((t.note k a s l).takes n).dead = (t.takes n).dead := by
  have h : (t.note k a s l).armed = t.armed := rfl
  unfold WS.takes
  rw [h]
  cases t.armed <;> rfl
theorem takes_slices (t : WS) (n : Int) : (t.takes n).slots = t.slots ∧ (t.takes n).seals = t.seals ∧ (t.takes n).lies = t.lies ∧ (t.takes n).trace = t.trace ∧ (t.takes n).blocks = t.blocks := by
  unfold WS.takes
  split <;> exact ⟨rfl, rfl, rfl, rfl, rfl⟩

set_option maxRecDepth 100000 in
set_option maxHeartbeats 1000000 in
theorem rwrite_walk (N : Nat → Prop) (w : World) (hN : ∀ k, N k → k < w.heap.size) (v : Value) (t : WS) (n : Nat) (h : RefT N w v t n) (hn : n ≤ 1000) (hb : Bd t) (a s : Int) (bv : Value) (l : List Int) (hl : SrcN N w 1 bv l.length (bys l)) (hl1 : l.length ≤ 100000) :
    Calls Try.prog 42 #[v, .int .i64 a, .int .i64 s, bv] w fun e w' => ∃ v', e = .returned (.tuple #[v', .bool (t.writeB a s)]) ∧ RefT N w' v' (t.write a s l) n ∧ Evo (fun _ => False) w w' := by
  obtain ⟨S, E, L, T, cs, ce, cl, ct, sl, ll, rfl, hD, hll⟩ := h
  obtain ⟨C, hC⟩ : ∃ C, C = tcells t (.slice S 8 cs) (.slice E 2 ce) (.slice L ll.length cl) (.slice T t.trace.length ct) := ⟨_, rfl⟩
  have hB0 := Boxes.start w C
  have hth := fun wx => rthere_walk wx t S E L T 8 cs 2 ce ll.length cl t.trace.length ct a s
  rw [hC] at hB0
  unfold tcells z56 at hB0
  have HB0 := Lib.hid hB0
  clear hB0
  cases ht : t.there a s with
  | false =>
    have e1 : t.write a s l = t := by simp [WS.write, ht]
    have e2 : t.writeB a s = false := by simp [WS.writeB, ht]
    rw [e1, e2]
    rw [ht] at hth
    unfold tcells at hth ⊢
    have Hth := Lib.hid hth
    clear e1 e2 ht hth hC
    go_enter Try.func42, Try.ntmps42
    go_wp2_with fail
    refine (Hth.out _).mono ?_
    rintro e w1 ⟨rfl, ev1⟩
    have hB1 := HB0.out.evo ev1
    have hld := hB1.load rfl
    obtain ⟨w2, hst, hc2, ev2, _⟩ := hB1.put _ rfl (tcells_one t S E L T 8 cs 2 ce ll.length cl t.trace.length ct)
    unfold tcells at hst hc2
    have Hld := Lib.hid hld
    have Hst := Lib.hid hst
    have Hc2 := Lib.hid hc2
    clear hld hst hc2
    go_wp2_with (first | (refine wpList_run rfl (run_op_load rfl Hld.out) ?_) | (refine wpList_void rfl (run_op_store rfl Hst.out) ?_))
    refine bodyPost_ret (v := .tuple #[.agg #[.int .i64 t.blocks, .slice S 8 cs, .slice E 2 ce, .int .u64 t.counter, .slice L ll.length cl, .int .i64 t.reads, .bool t.armed, .int .i64 t.power, .bool t.dead, .slice T t.trace.length ct], .bool false]) (by simp [results, Try.results42, go_sem, Hc2.out]) rfl ⟨_, rfl, ⟨S, E, L, T, cs, ce, cl, ct, sl, ll, rfl, hD.evo0 ev2, hll⟩, ev2⟩
  | true =>
    obtain ⟨tn, htn⟩ : ∃ u, u = t.note 2 a s l := ⟨_, rfl⟩
    obtain ⟨tt, htt⟩ : ∃ u, u = tn.takes 272 := ⟨_, rfl⟩
    obtain ⟨kN, hkN⟩ : ∃ k : Nat, (k : Int) = tn.takesN 272 := ⟨(tn.takesN 272).toNat, by
      have : 0 ≤ tn.takesN 272 := by
        have hp : tn.power = t.power := by rw [htn]; rfl
        have := hb.power0
        unfold WS.takesN; split <;> omega
      omega⟩
    have hk272 : kN ≤ 272 := by
      have : tn.takesN 272 ≤ 272 := by unfold WS.takesN; split <;> omega
      omega
    obtain ⟨ov, hov⟩ : ∃ x, x = WS.over (t.slots a s) (WS.pad l) (kN : Int) := ⟨_, rfl⟩
    have e1 : t.write a s l = tt.setSlot a s ov := by
      rw [hov, hkN, htt, htn]
      simp [WS.write, ht]
      rfl
    have e2 : t.writeB a s = !tt.dead := by
      rw [htt, htn, takes_note_dead]
      simp only [WS.writeB, ht, Bool.true_and]
    rw [e1, e2]
    rw [ht] at hth
    obtain ⟨hd, ha0, ha1, hs01⟩ := there_of ht
    have ha3 : a ≤ 3 := by have := hD.blocks; omega
    have hs0 : 0 ≤ s := by omega
    have hs1 : s ≤ 1 := by omega
    obtain ⟨K, hK⟩ : ∃ K : Nat, (K : Int) = 2 * a + s := ⟨(2 * a + s).toNat, by omega⟩
    have hx := hD.sat a s ha0 (by omega) hs01
    rw [show (2 * a + s).toNat = K by omega] at hx
    have hw1 : IntKind.i64.wrap (2 * a) = 2 * a := by rw [IntKind.wrap_i64]; omega
    have hw2 : IntKind.i64.wrap (2 * a + s) = (K : Int) := by rw [IntKind.wrap_i64]; omega
    have hK8 : K < 8 := by omega
    have hKz : (K : Int) < 8 := by omega
    have hset := sat_set hD.sat hD.slen ha0 (by omega) hs01 hK ov
    have HW1 := Lib.hid hw1
    have HW2 := Lib.hid hw2
    have HSET := Lib.hid hset
    have hsl := hb.s272 a s
    have hovl : ov.length = 272 := by rw [hov, over_len2 _ _ _ (by simp [WS.pad, padTo]; omega), hsl]; omega
    have Htn := Lib.hid htn
    have Htt := Lib.hid htt
    have HkN := Lib.hid hkN
    have Hov := Lib.hid hov
    have Hsl := Lib.hid hsl
    have hdn : tn.dead = false := by rw [htn]; exact hd
    have hpn : tn.power = t.power := by rw [htn]; rfl
    have Hdn := Lib.hid hdn
    have Hpn := Lib.hid hpn
    have HC := Lib.hid hC
    obtain ⟨rb, ro, RB, rd', rfl, hKn, hnc, hcK0, hsrc⟩ := hD.slots.at hx
    have Hx := Lib.hid hx
    clear hx
    unfold tcells at hth
    have Hth := Lib.hid hth
    have HK := Lib.hid hK
    have Hovl := Lib.hid hovl
    clear hovl
    clear e1 e2 ht hth hC hw1 hw2 hset htn htt hkN hov hsl hdn hpn hd hK
    unfold tcells
    go_enter Try.func42, Try.ntmps42
    go_wp2_with fail
    refine (Hth.out _).mono ?_
    rintro e w1 ⟨rfl, ev1⟩
    have hB1 := HB0.out.evo ev1
    have hld := hB1.load rfl
    have Hld := Lib.hid hld
    clear hld
    have hN4 := fun (wx : World) (he : Evo (fun _ => False) w wx) k hk => Nat.lt_of_lt_of_le (hN k hk) he.size
    have hnote := rnote_walk N w1 t (some ⟨rb, ro, none⟩) E L T 8 cs 2 ce ll.length cl ct (hN4 _ hB1.ev) (hD.trace.evo0 hB1.ev) hb.tlen 2 a s bv l (hl.evo0 hB1.ev)
    rw [← Htn.out] at hnote
    go_wp2_with (refine wpList_run rfl (run_op_load rfl Hld.out) ?_)
    refine hnote.mono ?_
    rintro e w2 ⟨T', ct', rfl, hT', hfr, ev2⟩
    have hB2 := hB1.evo ev2
    have hpad := rpad_walk (w2.alloc (.cells (tcells tn (.slice (some ⟨rb, ro, none⟩) 8 cs) (.slice E 2 ce) (.slice L ll.length cl) (.slice T' tn.trace.length ct')) 56)) bv l 272 (hl.1.evo (hB2.ev.alloc _) (fun _ _ _ hf => hf)) hl1 (by omega)
    have Hpad := Lib.hid hpad
    clear hpad
    obtain ⟨BV, cv, rfl, hcv⟩ : ∃ A c, bv = .slice A l.length c ∧ l.length ≤ c := by obtain ⟨A, c, e, h, _⟩ := hl.1; exact ⟨A, c, e, h⟩
    go_wp2_with (first | (refine wpList_run rfl (run_op_alloc rfl (alloc56 _)) ?_) | (refine wpList_void rfl (run_op_store rfl (store56_new _ _ rfl (tcells_one ..))) ?_))
    refine Hpad.out.mono ?_
    rintro e w3 ⟨PA, pc, rfl, hpc, hpsrc, ev3⟩
    have hPL : 272 ≤ (padTo l 272).length := by simp [padTo]; omega
    have hps2 : Src w3 1 (.slice PA 272 pc) 272 (bys (WS.pad l)) := by
      have := Src.take (k := 272) hpsrc hPL rfl
      rw [WS.pad, bys, List.map_take]
      exact this
    generalize (padTo l 272).length = PL at *
    have hPz : (272 : Int) ≤ (PL : Int) := by omega
    have b3 : w3.heap[w2.heap.size]? = some (.cells (tcells tn (.slice (some ⟨rb, ro, none⟩) 8 cs) (.slice E 2 ce) (.slice L ll.length cl) (.slice T' tn.trace.length ct')) 56 (0, 0)) := (ev3.block _ (by simp) (fun hf => hf)).trans (heap_alloc_new _ _)
    have hld3 := load56 _ _ _ b3 rfl
    have Hld3 := Lib.hid hld3
    have htk := rtakes_walk w3 tn (some ⟨rb, ro, none⟩) E L T' 8 cs 2 ce ll.length cl tn.trace.length ct' 272 (by omega) (by omega) (by rw [Hpn.out]; exact hb.power0) (by rw [Hpn.out]; exact hb.power1) Hdn.out
    rw [← Htt.out, ← HkN.out] at htk
    have Htk := Lib.hid htk
    clear hld3 htk hpsrc
    go_wp2_with (refine wpList_run rfl (run_op_load rfl Hld3.out) ?_)
    refine Htk.out.mono ?_
    rintro e w4 ⟨rfl, ev4⟩
    go_wp2_with (first | (refine wpList_run rfl (run_op_alloc rfl (alloc56 _)) ?_) | (refine wpList_void rfl (run_op_store rfl (store56_new _ _ rfl (tcells_one ..))) ?_))
    have e24 : Evo (fun _ => False) w2 w4 := (((Evo.refl (fun _ => False) w2).alloc _).two ev3).two ev4
    obtain ⟨W5, hW5⟩ : ∃ W, W = (w4.alloc (.cells (tcells tt (.slice (some ⟨rb, ro, none⟩) 8 cs) (.slice E 2 ce) (.slice L ll.length cl) (.slice T' tn.trace.length ct')) 56)).drew := ⟨_, rfl⟩
    have e45 : Evo (fun _ => False) w4 W5 := by rw [hW5]; exact ((Evo.refl _ w4).alloc _).drew
    have eW5 : Evo (fun _ => False) w W5 := (hB2.ev.two e24).two e45
    have b5 : W5.heap[w4.heap.size]? = some (.cells (tcells tt (.slice (some ⟨rb, ro, none⟩) 8 cs) (.slice E 2 ce) (.slice L ll.length cl) (.slice T' tn.trace.length ct')) 56 (0, 0)) := by rw [hW5]; exact heap_alloc_new _ _
    have z5 : W5.heap.size = w4.heap.size + 1 := by rw [hW5]; simp
    have kV : W5.cell? ⟨w4.heap.size, 1, none⟩ = some (.slice (some ⟨rb, ro, none⟩) 8 cs) := blk_cell b5 1
    have hcK := (eW5.cell (World.block_lt_of_cell? _ _ hcK0) (fun hf => hf)).trans hcK0
    have hov := rover_walk N W5 (hN4 _ eW5) (.slice RB (t.slots a s).length rd') (.slice PA 272 pc) (t.slots a s) (WS.pad l) (hsrc.1.evo eW5 (fun _ _ _ hf => hf)) (by have hpl : (WS.pad l).length = 272 := (by simp [WS.pad, padTo]; omega); rw [hpl]; exact hps2.evo ((ev4.two e45)) (fun _ _ _ hf => hf)) kN (by have hpl : (WS.pad l).length = 272 := (by simp [WS.pad, padTo]; omega); omega) (by rw [Hsl.out]; omega) (by have hpl : (WS.pad l).length = 272 := (by simp [WS.pad, padTo]; omega); omega)
    rw [← Hov.out] at hov
    have HOV := Lib.hid hov
    have hw1 := HW1.out
    have hw2 := HW2.out
    have HW5 := Lib.hid hW5
    clear hov hW5 hcK0
    refine wp_region_seq_drop (fun w' => w'.cell? ⟨w4.heap.size, 1, none⟩ = some (.slice (some ⟨rb, ro, none⟩) 8 cs) ∧ w'.cell? ⟨rb, ro + K, none⟩ = some (.slice RB (t.slots a s).length rd')) [0, 1, 2, 3, 4, 5, 6, 7, 8, 9, 10, 11, 12, 13, 14, 15, 18] [0, 1, 2, 3, 4, 5, 6, 7, 8, 9, 10, 11, 12, 13, 14, 15, 16, 17, 18] 19 (by kernel_rfl) rfl (by kernel_rfl) (by kernel_rfl) (by kernel_rfl) rfl (by kernel_rfl) (fun _ _ _ _ _ h => h) ((by rw [← HW5.out]; exact ⟨kV, hcK⟩)) ?_
    dsimp only [List.dropLast]
    rw [← HW5.out]
    repeat
      apply seq_read (by rfl)
      · (simp only [List.getElem?_toArray, List.getElem?_cons_succ, List.getElem?_cons_zero]; rfl)
      · rfl
      · (intro w' hSw; (first | subst hSw | (try dsimp only at hSw)); go_simp; (try go_bits); (try with_reducible rfl))
      simp only [Act.put, List.setIfInBounds_toArray, List.set_cons_zero, List.set_cons_succ]
    apply seq_act (by rfl)
    · (simp only [List.getElem?_toArray, List.getElem?_cons_succ, List.getElem?_cons_zero]; rfl)
    · rfl
    refine wp_k (fun K hK => ?_)
    go_simp
    refine (HOV.out).mono ?_
    rintro e w6 ⟨OA, oc, rfl, hos, ev6⟩
    refine hK _ _ ⟨⟨(ev6.cell (World.block_lt_of_cell? _ _ kV) (fun hf => hf)).trans kV, (ev6.cell (World.block_lt_of_cell? _ _ hcK) (fun hf => hf)).trans hcK⟩, ?_⟩
    clear hK K
    try simp only [Act.put, List.setIfInBounds_toArray, List.set_cons_zero, List.set_cons_succ]
    have kV6 := (ev6.cell (World.block_lt_of_cell? _ _ kV) (fun hf => hf)).trans kV
    have hcK6 := (ev6.cell (World.block_lt_of_cell? _ _ hcK) (fun hf => hf)).trans hcK
    have hwi := rwith_walk N w6 (hN4 _ (eW5.two ev6)) (.slice (some ⟨rb, ro, none⟩) 8 cs) (.slice OA ov.length oc) sl ov (hD.slots.evo0 (eW5.two ev6)) K (by have := hD.slen; omega) (by have := hD.slen; omega) hos
    rw [hD.slen] at hwi
    have Hwi := Lib.hid hwi
    clear hwi
    repeat
      apply seq_read (by rfl)
      · (simp only [List.getElem?_toArray, List.getElem?_cons_succ, List.getElem?_cons_zero]; rfl)
      · rfl
      · (intro w' hSw; (first | subst hSw | (try dsimp only at hSw)); go_simp; (try go_bits); (try with_reducible rfl))
      simp only [Act.put, List.setIfInBounds_toArray, List.set_cons_zero, List.set_cons_succ]
    apply seq_act (by rfl)
    · (simp only [List.getElem?_toArray, List.getElem?_cons_succ, List.getElem?_cons_zero]; rfl)
    · rfl
    refine wp_k (fun K hK => ?_)
    go_simp
    refine (Hwi.out).mono ?_
    rintro e w7 ⟨A9, c9, rfl, hrow, hfr9, ev7⟩
    refine hK _ _ ⟨⟨(ev7.cell (World.block_lt_of_cell? _ _ kV6) (fun hf => hf)).trans kV6, (ev7.cell (World.block_lt_of_cell? _ _ hcK6) (fun hf => hf)).trans hcK6⟩, ?_⟩
    clear hK K
    try simp only [Act.put, List.setIfInBounds_toArray, List.set_cons_zero, List.set_cons_succ]
    have kV7 := (ev7.cell (World.block_lt_of_cell? _ _ kV6) (fun hf => hf)).trans kV6
    have b7 := ((ev6.two ev7).block _ (heap_lt b5) (fun hf => hf)).trans b5
    have fV7 : w7.frozen? ⟨w4.heap.size, 1, none⟩ = false := blk_frozen b7 1
    repeat
      apply seq_read (by rfl)
      · (simp only [List.getElem?_toArray, List.getElem?_cons_succ, List.getElem?_cons_zero]; rfl)
      · rfl
      · (intro w' hSw; (first | subst hSw | (try dsimp only at hSw)); go_simp; (try go_bits); (try with_reducible rfl))
      simp only [Act.put, List.setIfInBounds_toArray, List.set_cons_zero, List.set_cons_succ]
    refine seq_nil ?_
    apply last_act
    · (simp only [List.getElem?_toArray, List.getElem?_cons_succ, List.getElem?_cons_zero]; rfl)
    · rfl
    refine wp_k (fun K hK => ?_)
    go_simp
    refine hK _ _ ?_
    clear hK K
    try simp only [Act.put, List.setIfInBounds_toArray, List.set_cons_zero, List.set_cons_succ]
    obtain ⟨W8, hW8⟩ : ∃ W, w7.setCell ⟨w4.heap.size, 1, none⟩ (.slice A9 8 c9) = W := ⟨_, rfl⟩
    rw [hW8]
    have b8 : W8.heap[w4.heap.size]? = some (.cells (tcells tt (.slice A9 8 c9) (.slice E 2 ce) (.slice L ll.length cl) (.slice T' tn.trace.length ct')) 56 (0, 0)) := by rw [← hW8]; exact blk_set b7 1 _
    have e78 : Evo (fun k => k = w4.heap.size) w7 W8 := by rw [← hW8]; exact (Evo.refl (fun k => k = w4.heap.size) w7).setCell (p := ⟨w4.heap.size, 1, none⟩) (.inl rfl) _
    have e57 := ev6.two ev7
    have ew7 : Evo (fun _ => False) w w7 := eW5.two e57
    have hw4 : w.heap.size + 1 < w4.heap.size := by have := heap_lt hB2.b2; have := e24.size; omega
    have b7r := ((e24.two (e45.two e57)).block _ (heap_lt hB2.b2) (fun hf => hf)).trans hB2.b2
    have b8r : W8.heap[w.heap.size + 1]? = some (.cells z56 56 (0, 0)) := (e78.block _ (heap_lt b7r) (fun e => by have e : w.heap.size + 1 = w4.heap.size := e; omega)).trans b7r
    obtain ⟨w9, hst, hg9, e89⟩ := store56 W8.drew _ _ (tcells tt (.slice A9 8 c9) (.slice E 2 ce) (.slice L ll.length cl) (.slice T' tn.trace.length ct')) b8r rfl rfl (tcells_one ..)
    have hc9 := blk_cell hg9
    have e79 : Evo (fun k => k = w4.heap.size ∨ k = w.heap.size + 1) w7 w9 := (e78.mono (F' := fun k => k = w4.heap.size ∨ k = w.heap.size + 1) (fun k hk => .inl hk)).drew.trans ((e89.mono (F' := fun k => k = w4.heap.size ∨ k = w.heap.size + 1) (fun k hk => .inr hk))) (fun k hk => .inl hk)
    have ew9 : Evo (fun _ => False) w w9 := ew7.trans e79 (fun k hk => .inr (by rcases hk with hk | hk <;> omega))
    have hbx : Boxed (fun k => k = w4.heap.size ∨ k = w.heap.size + 1) w7 := by
      rintro k (rfl | rfl)
      · exact ⟨_, b7, fun n => tcells_u8 _ _ _ _ _ _ _ _ _ _ _ _ _ n⟩
      · exact ⟨_, b7r, z56_u8⟩
    have hrow9 : RowOf N w9 (.slice A9 8 c9) (sl.set K ov) := hrow.keepF e79 hbx (fun ad e hf => by
      have := (hfr9 ad e).1
      have := ev6.size
      rcases hf with hf | hf <;> omega)
    have hTl : 0 < tn.trace.length := by rw [Htn.out]; simp [WS.note]
    have hT9 : TrN N w9 (.slice T' tn.trace.length ct') tn.trace := (hT'.evo0 (e24.two (e45.two e57))).keepF e79 hbx (fun ad e hf => by
      subst e
      have h1 := (hfr ad rfl).1
      have h2 := hT'.src.lt hTl
      have := heap_lt hB1.b2
      have := e24.size
      rcases hf with hf | hf <;> omega)
    have kA9 : ∀ ad, A9 = some ad → KindN N w9 22 ad.block := fun ad e => (hfr9 ad e).2.evo e79 (hbx.not (by decide) (hfr9 ad e).2)
    have kT9 : ∀ ad, T' = some ad → KindN N w9 52 ad.block := fun ad e => by
      have h1 := ((hfr ad e).2.evo (e24.two (e45.two e57)) (fun hf => hf))
      exact h1.evo e79 (hbx.not (by decide) h1)
    have b9 : w9.heap[w4.heap.size]? = some (.cells (tcells tt (.slice A9 8 c9) (.slice E 2 ce) (.slice L ll.length cl) (.slice T' tn.trace.length ct')) 56 (0, 0)) := (e89.block _ (heap_lt b8) (fun e => by have e : w4.heap.size = w.heap.size + 1 := e; omega)).trans b8
    have Hst := Lib.hid hst
    have Hc9 := Lib.hid hc9
    have HWB : Hid (tt.slots = t.slots ∧ tt.seals = t.seals ∧ tt.lies = t.lies ∧ tt.trace = tn.trace ∧ tt.blocks = t.blocks) := by
      have := takes_slices tn 272
      rw [← Htt.out] at this
      rw [Htn.out] at this
      rw [Htn.out]
      exact this
    clear hst hc9 hW8 hg9 e78 e79 e57 hbx b7 b7r b5 hrow hT'
    go_wp2
    refine wp_region_plan (fun w' => w'.heap[w4.heap.size]? = some (.cells (tcells tt (.slice A9 8 c9) (.slice E 2 ce) (.slice L ll.length cl) (.slice T' tn.trace.length ct')) 56 (0, 0)) ∧ w'.cell? ⟨w4.heap.size, 8, none⟩ = some (.bool tt.dead)) (.rds [0, 1, 2, 3] (.act 4 (.rd 5 .done))) 6 (by kernel_rfl) (by kernel_rfl) (by rfl) (by kernel_rfl) (fun _ _ _ _ _ h => h) (⟨b8, blk_cell b8 8⟩) ?_
    try simp only [Plan.rds]
    apply plan_read
    · (simp only [List.getElem?_toArray, List.getElem?_cons_succ, List.getElem?_cons_zero]; rfl)
    · rfl
    · (intro w' hSw; exact run_op_load rfl (load56 _ _ _ hSw.1 rfl))
    simp only [Act.put, List.setIfInBounds_toArray, List.set_cons_zero, List.set_cons_succ]
    repeat
      first
      | (apply plan_read
         · (simp only [List.getElem?_toArray, List.getElem?_cons_succ, List.getElem?_cons_zero]; rfl)
         · rfl
         · (intro w' hSw; (first | subst hSw | (try dsimp only at hSw)); go_simp; (try go_bits); (try with_reducible rfl))
         simp only [Act.put, List.setIfInBounds_toArray, List.set_cons_zero, List.set_cons_succ])
      | (apply plan_pass
         · (simp only [List.getElem?_toArray, List.getElem?_cons_succ, List.getElem?_cons_zero]; rfl)
         · rfl
         simp only [Act.put, List.setIfInBounds_toArray, List.set_cons_zero, List.set_cons_succ])
    first | apply plan_act | apply plan_op
    · (simp only [List.getElem?_toArray, List.getElem?_cons_succ, List.getElem?_cons_zero]; rfl)
    · rfl
    refine wp_void (run_op_store rfl Hst.out) ⟨⟨b9, blk_cell b9 8⟩, ?_⟩
    try simp only [Act.put, List.setIfInBounds_toArray, List.set_cons_zero, List.set_cons_succ]
    repeat
      first
      | (apply plan_read
         · (simp only [List.getElem?_toArray, List.getElem?_cons_succ, List.getElem?_cons_zero]; rfl)
         · rfl
         · (intro w' hSw; (first | subst hSw | (try dsimp only at hSw)); go_simp; (try go_bits); (try with_reducible rfl))
         simp only [Act.put, List.setIfInBounds_toArray, List.set_cons_zero, List.set_cons_succ])
      | (apply plan_pass
         · (simp only [List.getElem?_toArray, List.getElem?_cons_succ, List.getElem?_cons_zero]; rfl)
         · rfl
         simp only [Act.put, List.setIfInBounds_toArray, List.set_cons_zero, List.set_cons_succ])
    refine plan_done ?_
    go_wp2
    refine bodyPost_ret (v := .tuple #[.agg (tcells tt (.slice A9 8 c9) (.slice E 2 ce) (.slice L ll.length cl) (.slice T' tn.trace.length ct')), .bool (!tt.dead)]) (by simp [results, Try.results42, go_sem, Hc9.out, tcells]) rfl ⟨_, rfl, ?_, ew9⟩
    obtain ⟨q1, q2, q3, q4, q5⟩ := HWB.out
    refine ⟨A9, E, L, T', c9, ce, cl, ct', sl.set K ov, ll, ?_, ⟨hrow9, by rw [List.length_set]; exact hD.slen, ?_, ?_, hD.lies.evo0 ew9, ?_, ?_, ?_, kA9, (hD.evo0 ew9).kE, (hD.evo0 ew9).kL, kT9⟩, hll⟩
    · show Value.agg (tcells tt _ _ _ _) = Value.agg (tcells tt _ _ _ (.slice T' tt.trace.length ct'))
      rw [q4]
    · intro a' s' h1 h2 h3
      rw [HSET.out a' s' h1 h2 h3]
      show _ = some (if a' = a ∧ s' = s then ov else tt.slots a' s')
      rw [q1]
    · show RowOf N w9 _ [tt.seals 0, tt.seals 1]
      rw [q2]
      exact hD.seals.evo0 ew9
    · intro m
      show _ = tt.lies m
      rw [q3]
      exact hD.last m
    · show TrN N w9 (.slice T' tt.trace.length ct') tt.trace
      rw [q4]
      exact hT9
    · show tt.blocks = 4
      rw [q5]
      exact hD.blocks

end Go.Proofs.Ytnndkameadlkdaa
