/- The walk of the reference's Bump. -/
import Derived.Test.YtnndkameadlkdaaRfH
namespace Go.Proofs.Ytnndkameadlkdaa
open Go.RowKit

set_option maxRecDepth 100000 in
set_option maxHeartbeats 2000000 in
theorem rbump_walk (N : Nat → Prop) (w : World) (hN : ∀ k, N k → k < w.heap.size) (v : Value) (t : WS) (n : Nat) (h : RefT N w v t n) (hn : n ≤ 1000) (hb : Bd t) (hc0 : 0 ≤ t.counter) (hc1 : t.counter ≤ 18446744073709551615) :
    Calls Try.prog 45 #[v] w fun e w' => ∃ v', e = .returned (.tuple #[v', .bool t.bumpB]) ∧ RefT N w' v' t.bump n ∧ Evo (fun _ => False) w w' := by
  obtain ⟨S, E, L, T, cs, ce, cl, ct, sl, ll, rfl, hD, hll⟩ := h
  have hB0 : ∀ d, t.dead = d → Boxes w ((w.alloc (.cells #[.int .i64 t.blocks, .slice S 8 cs, .slice E 2 ce, .int .u64 t.counter, .slice L ll.length cl, .int .i64 t.reads, .bool t.armed, .int .i64 t.power, .bool d, .slice T t.trace.length ct] 56)).alloc (.cells #[.int .i64 0, .slice none 0 0, .slice none 0 0, .int .u64 0, .slice none 0 0, .int .i64 0, .bool false, .int .i64 0, .bool false, .slice none 0 0] 56)) (tcells t (.slice S 8 cs) (.slice E 2 ce) (.slice L ll.length cl) (.slice T t.trace.length ct)) := by
    rintro d rfl
    exact Boxes.start w _
  have HB0 := Lib.hid hB0
  clear hB0
  have HTC : Hid (∀ d, t.dead = d → (Value.agg #[.int .i64 t.blocks, .slice S 8 cs, .slice E 2 ce, .int .u64 t.counter, .slice L ll.length cl, .int .i64 t.reads, .bool t.armed, .int .i64 t.power, .bool d, .slice T t.trace.length ct]) = .agg (tcells t (.slice S 8 cs) (.slice E 2 ce) (.slice L ll.length cl) (.slice T t.trace.length ct))) := by rintro d rfl; rfl
  -- nothing is done
  have stay : ∀ d, t.dead = d → (d = true ∨ (d = false ∧ (t.counter == 18446744073709551615) = true)) → t.bumpB = false ∧ t.bump = t := by
    intro d hd hcase
    rcases hcase with rfl | ⟨rfl, hm⟩
    · exact ⟨by simp [WS.bumpB, WS.bumps, hd], by simp [WS.bump, WS.bumps, hd]⟩
    · have hm : t.counter = 18446744073709551615 := by simpa using hm
      exact ⟨by simp [WS.bumpB, WS.bumps, hm], by simp [WS.bump, WS.bumps, hm]⟩
  have hB1 := HB0.out _ rfl
  obtain ⟨w2, hst, hc2, ev2, _⟩ := hB1.put _ rfl (tcells_one t S E L T 8 cs 2 ce ll.length cl t.trace.length ct)
  have HD2 := Lib.hid (hD.evo0 ev2)
  unfold tcells at hst hc2
  have Hst := Lib.hid hst
  have Hc2 := Lib.hid hc2
  have Hev2 := Lib.hid ev2
  have Hstay := Lib.hid stay
  clear hst hc2 ev2 stay hB1
  cases hd : t.dead with
  | true =>
    obtain ⟨e1, e2⟩ := Hstay.out _ hd (.inl rfl)
    rw [e1, e2]
    have Hd := Lib.hid hd
    rw [hd] at Hst Hc2
    unfold tcells
    rw [hd]
    clear e1 e2 hd
    go_enter Try.func45, Try.ntmps45
    go_wp2_with (first | (refine wpList_void rfl (run_op_store rfl Hst.out) ?_))
    refine bodyPost_ret (v := .tuple #[.agg #[.int .i64 t.blocks, .slice S 8 cs, .slice E 2 ce, .int .u64 t.counter, .slice L ll.length cl, .int .i64 t.reads, .bool t.armed, .int .i64 t.power, .bool true, .slice T t.trace.length ct], .bool false]) (by simp [results, Try.results45, go_sem, Hc2.out]) rfl ⟨_, rfl, ⟨S, E, L, T, cs, ce, cl, ct, sl, ll, HTC.out _ Hd.out, HD2.out, hll⟩, Hev2.out⟩
  | false =>
    cases hm : (t.counter == 18446744073709551615) with
    | true =>
      obtain ⟨e1, e2⟩ := Hstay.out _ hd (.inr ⟨rfl, hm⟩)
      rw [e1, e2]
      have Hd := Lib.hid hd
      rw [hd] at Hst Hc2
      unfold tcells
      rw [hd]
      have hm' : t.counter = 18446744073709551615 := by simpa using hm
      have HTM : Hid (∀ c, t.counter = c → (Value.agg #[.int .i64 t.blocks, .slice S 8 cs, .slice E 2 ce, .int .u64 c, .slice L ll.length cl, .int .i64 t.reads, .bool t.armed, .int .i64 t.power, .bool false, .slice T t.trace.length ct]) = (Value.agg #[.int .i64 t.blocks, .slice S 8 cs, .slice E 2 ce, .int .u64 t.counter, .slice L ll.length cl, .int .i64 t.reads, .bool t.armed, .int .i64 t.power, .bool false, .slice T t.trace.length ct])) := by rintro c rfl; rfl
      have Hm' := Lib.hid hm'
      rw [hm'] at Hst Hc2
      rw [hm']
      clear e1 e2 hd hm hm' hc0 hc1
      go_enter Try.func45, Try.ntmps45
      go_wp2_with (first | (refine wpList_void rfl (run_op_store rfl Hst.out) ?_))
      refine bodyPost_ret (v := .tuple #[.agg #[.int .i64 t.blocks, .slice S 8 cs, .slice E 2 ce, .int .u64 18446744073709551615, .slice L ll.length cl, .int .i64 t.reads, .bool t.armed, .int .i64 t.power, .bool false, .slice T t.trace.length ct], .bool false]) (by simp [results, Try.results45, go_sem, Hc2.out]) rfl ⟨_, rfl, ⟨S, E, L, T, cs, ce, cl, ct, sl, ll, (HTM.out _ Hm'.out).trans (HTC.out _ Hd.out), HD2.out, hll⟩, Hev2.out⟩
    | false =>
      have hmn : ¬ t.counter = 18446744073709551615 := by simpa using hm
      have hbs : t.bumps = true := by simp [WS.bumps, hd, hmn]
      have hw : IntKind.u64.wrap (t.counter + 1) = t.counter + 1 := u64_succ hc0 hc1 hmn
      have HW := Lib.hid hw
      obtain ⟨tt, htt⟩ : ∃ u, u = t.takes 1 := ⟨_, rfl⟩
      obtain ⟨kN, hkN⟩ : ∃ k : Nat, (k : Int) = t.takesN 1 := ⟨(t.takesN 1).toNat, by
        have : 0 ≤ t.takesN 1 := by
          have := hb.power0
          unfold WS.takesN; split <;> omega
        omega⟩
      have hB1 := HB0.out _ hd
      have htk := rtakes_walk ((w.alloc (.cells #[.int .i64 t.blocks, .slice S 8 cs, .slice E 2 ce, .int .u64 t.counter, .slice L ll.length cl, .int .i64 t.reads, .bool t.armed, .int .i64 t.power, .bool false, .slice T t.trace.length ct] 56)).alloc (.cells #[.int .i64 0, .slice none 0 0, .slice none 0 0, .int .u64 0, .slice none 0 0, .int .i64 0, .bool false, .int .i64 0, .bool false, .slice none 0 0] 56)) t S E L T 8 cs 2 ce ll.length cl t.trace.length ct 1 (by omega) (by omega) hb.power0 hb.power1 hd
      rw [← htt, ← hkN] at htk
      have hTC := HTC.out _ hd
      rw [← hTC] at htk
      have Htk := Lib.hid htk
      have hq := takes_slices t 1
      rw [← htt] at hq
      have HQ := Lib.hid hq
      have Htt := Lib.hid htt
      have hcn : tt.counter = t.counter := by rw [htt]; exact takes_counter t 1
      have Hcn := Lib.hid hcn
      obtain ⟨w1, hw1e⟩ : ∃ w1, ((w.alloc (.cells #[.int .i64 t.blocks, .slice S 8 cs, .slice E 2 ce, .int .u64 t.counter, .slice L ll.length cl, .int .i64 t.reads, .bool t.armed, .int .i64 t.power, .bool false, .slice T t.trace.length ct] 56)).alloc (.cells #[.int .i64 0, .slice none 0 0, .slice none 0 0, .int .u64 0, .slice none 0 0, .int .i64 0, .bool false, .int .i64 0, .bool false, .slice none 0 0] 56)) = w1 := ⟨_, rfl⟩
      have HW1E := Lib.hid hw1e
      rw [hw1e] at hB1
      have Hbs := Lib.hid hbs
      have HkN := Lib.hid hkN
      clear htk htt hq hmn hw hw1e hcn hTC hbs hkN
      by_cases hk : kN = 0
      · have e1 : t.bumpB = false := by simp [WS.bumpB, ← HkN.out, hk]
        have e2 : t.bump = tt := by simp [WS.bump, Hbs.out, ← HkN.out, hk, Htt.out]
        rw [e1, e2]
        unfold tcells
        rw [hd]
        clear e1 e2 hd hc0 hc1
        subst hk
        go_enter Try.func45, Try.ntmps45
        go_wp2_with fail
        refine Htk.out.mono ?_
        rintro e w3 ⟨rfl, ev3⟩
        rw [HW1E.out] at ev3
        have hB3 := hB1.evo ev3
        have hB4 := hB3.evo ((Evo.refl _ w3).alloc (.cells (tcells tt (.slice S 8 cs) (.slice E 2 ce) (.slice L ll.length cl) (.slice T t.trace.length ct)) 56))
        have hld := load56 (w3.alloc (.cells (tcells tt (.slice S 8 cs) (.slice E 2 ce) (.slice L ll.length cl) (.slice T t.trace.length ct)) 56)) w3.heap.size _ (heap_alloc_new _ _) rfl
        obtain ⟨w5, hst5, hc5, ev5, _⟩ := hB4.put (tcells tt (.slice S 8 cs) (.slice E 2 ce) (.slice L ll.length cl) (.slice T t.trace.length ct)) rfl (tcells_one ..)
        have Hld := Lib.hid hld
        have Hst5 := Lib.hid hst5
        have Hc5 := Lib.hid hc5
        clear hld hst5 hc5
        go_wp2_with (first | (refine wpList_run rfl (run_op_alloc rfl (alloc56 _)) ?_) | (refine wpList_void rfl (run_op_store rfl (store56_new _ _ rfl (tcells_one ..))) ?_) | (refine wpList_run rfl (run_op_load rfl Hld.out) ?_) | (refine wpList_void rfl (run_op_store rfl Hst5.out) ?_))
        obtain ⟨q1, q2, q3, q4, q5⟩ := HQ.out
        refine bodyPost_ret (v := .tuple #[.agg (tcells tt (.slice S 8 cs) (.slice E 2 ce) (.slice L ll.length cl) (.slice T t.trace.length ct)), .bool false]) (by simp [results, Try.results45, go_sem, Hc5.out, tcells]) rfl ⟨_, rfl, ⟨S, E, L, T, cs, ce, cl, ct, sl, ll, by rw [q4], ?_, hll⟩, ev5⟩
        exact ⟨hD.slots.evo0 ev5, hD.slen, by rw [q1]; exact hD.sat, by rw [q2]; exact hD.seals.evo0 ev5, hD.lies.evo0 ev5, by rw [q3]; exact hD.last, by rw [q4]; exact hD.trace.evo0 ev5, by rw [q5]; exact hD.blocks, (hD.evo0 ev5).kS, (hD.evo0 ev5).kE, (hD.evo0 ev5).kL, (hD.evo0 ev5).kT⟩
      · have e1 : t.bumpB = true := by simp [WS.bumpB, Hbs.out, ← HkN.out, hk]
        have e2 : t.bump = { tt with counter := t.counter + 1 }.note 5 0 0 [] := by simp [WS.bump, Hbs.out, ← HkN.out, hk, Htt.out]
        rw [e1, e2]
        unfold tcells
        rw [hd]
        have hkb : ((kN : Int) == 0) = false := by simpa using hk
        clear e1 e2 hd hc0 hc1 hk
        obtain ⟨tm, htm⟩ : ∃ u : WS, u = { tt with counter := t.counter + 1 } := ⟨_, rfl⟩
        rw [← htm]
        have Htm := Lib.hid htm
        have htr : tm.trace = t.trace := by rw [htm]; exact HQ.out.2.2.2.1
        have Htr := Lib.hid htr
        clear htm htr
        go_enter Try.func45, Try.ntmps45
        go_wp2_with fail
        refine Htk.out.mono ?_
        rintro e w3 ⟨rfl, ev3⟩
        rw [HW1E.out] at ev3
        have hB3 := hB1.evo ev3
        have hB4 := hB3.evo ((Evo.refl _ w3).alloc (.cells (tcells tt (.slice S 8 cs) (.slice E 2 ce) (.slice L ll.length cl) (.slice T t.trace.length ct)) 56))
        have b4 := heap_alloc_new w3 (.cells (tcells tt (.slice S 8 cs) (.slice E 2 ce) (.slice L ll.length cl) (.slice T t.trace.length ct)) 56)
        have k3 : (w3.alloc (.cells (tcells tt (.slice S 8 cs) (.slice E 2 ce) (.slice L ll.length cl) (.slice T t.trace.length ct)) 56)).cell? ⟨w3.heap.size, 3, none⟩ = some (.int .u64 t.counter) := by rw [blk_cell b4 3, ← Hcn.out]; rfl
        have f3 : (w3.alloc (.cells (tcells tt (.slice S 8 cs) (.slice E 2 ce) (.slice L ll.length cl) (.slice T t.trace.length ct)) 56)).frozen? ⟨w3.heap.size, 3, none⟩ = false := blk_frozen b4 3
        have hCM : (tcells tt (.slice S 8 cs) (.slice E 2 ce) (.slice L ll.length cl) (.slice T t.trace.length ct)).setIfInBounds 3 (.int .u64 (t.counter + 1)) = tcells tm (.slice S 8 cs) (.slice E 2 ce) (.slice L ll.length cl) (.slice T t.trace.length ct) := by rw [Htm.out]; rfl
        have b5 := heap_alloc_new w3 (.cells ((tcells tt (.slice S 8 cs) (.slice E 2 ce) (.slice L ll.length cl) (.slice T t.trace.length ct)).setIfInBounds 3 (.int .u64 (t.counter + 1))) 56)
        have e35 : Evo (fun _ => False) w3 (w3.alloc (.cells ((tcells tt (.slice S 8 cs) (.slice E 2 ce) (.slice L ll.length cl) (.slice T t.trace.length ct)).setIfInBounds 3 (.int .u64 (t.counter + 1))) 56)) := (Evo.refl (fun _ => False) w3).alloc _
        have hB5 := hB3.evo e35
        have hld := load56 _ _ _ b5 rfl
        have HCM := Lib.hid hCM
        have hnote := rnote_walk N (w3.alloc (.cells ((tcells tt (.slice S 8 cs) (.slice E 2 ce) (.slice L ll.length cl) (.slice T t.trace.length ct)).setIfInBounds 3 (.int .u64 (t.counter + 1))) 56)) tm S E L T 8 cs 2 ce ll.length cl ct (fun k hk => Nat.lt_of_lt_of_le (hN k hk) hB5.ev.size) (by rw [Htr.out]; exact hD.trace.evo0 hB5.ev) (by rw [Htr.out]; exact hb.tlen) 5 0 0 (.slice none 0 0) [] (SrcN.nil N _)
        rw [Htr.out, ← HCM.out] at hnote
        have Hld := Lib.hid hld
        have Hnote := Lib.hid hnote
        have hw2 := HW.out
        clear hld hnote hCM e35 b5 b4
        go_wp2_with (first | (refine wpList_run rfl (run_op_alloc rfl (alloc56 _)) ?_) | (refine wpList_void rfl (run_op_store rfl (store56_new _ _ rfl (tcells_one ..))) ?_) | (refine wpList_run rfl (run_op_load rfl Hld.out) ?_))
        refine Hnote.out.mono ?_
        rintro e w6 ⟨T', ct', rfl, hT', hfr, ev6⟩
        have hB6 := hB5.evo ev6
        obtain ⟨w7, hst7, hc7, ev7, ev67⟩ := hB6.put _ rfl (tcells_one (tm.note 5 0 0 []) S E L T' 8 cs 2 ce ll.length cl (tm.note 5 0 0 []).trace.length ct')
        have hT7 := hT'.keepZ ev67 hB6.b2 (fun ad e => by have := (hfr ad e).1; have := heap_lt hB5.b2; omega)
        have Hst7 := Lib.hid hst7
        have Hc7 := Lib.hid hc7
        clear hst7 hc7
        go_wp2_with (refine wpList_void rfl (run_op_store rfl Hst7.out) ?_)
        obtain ⟨q1, q2, q3, q4, q5⟩ := HQ.out
        refine bodyPost_ret (v := .tuple #[.agg (tcells (tm.note 5 0 0 []) (.slice S 8 cs) (.slice E 2 ce) (.slice L ll.length cl) (.slice T' (tm.note 5 0 0 []).trace.length ct')), .bool true]) (by simp [results, Try.results45, go_sem, Hc7.out, tcells]) rfl ⟨_, rfl, ⟨S, E, L, T', cs, ce, cl, ct', sl, ll, rfl, ?_, hll⟩, ev7⟩
        have s1 : (tm.note 5 0 0 []).slots = t.slots := by rw [Htm.out]; exact q1
        have s2 : (tm.note 5 0 0 []).seals = t.seals := by rw [Htm.out]; exact q2
        have s3 : (tm.note 5 0 0 []).lies = t.lies := by rw [Htm.out]; exact q3
        have s5 : (tm.note 5 0 0 []).blocks = t.blocks := by rw [Htm.out]; exact q5
        exact ⟨hD.slots.evo0 ev7, hD.slen, by rw [s1]; exact hD.sat, by rw [s2]; exact hD.seals.evo0 ev7, hD.lies.evo0 ev7, by rw [s3]; exact hD.last, hT7, by rw [s5]; exact hD.blocks, (hD.evo0 ev7).kS, (hD.evo0 ev7).kE, (hD.evo0 ev7).kL, fun ad e => (hfr ad e).2.evo ev67 (fun hf => (hfr ad e).2.ne ⟨_, _, hB6.b2⟩ (by decide) hf)⟩

end Go.Proofs.Ytnndkameadlkdaa
