/- The walk of WorldCopies. -/
import Derived.Test.YtnndkameadlkdaaCpC
import Derived.Deep.DeepCutAuto
import Derived.Deep.LoopGhost
import Derived.WalkMore
namespace Go.Proofs.Ytnndkameadlkdaa
open Go.RowKit

/-- A box is given what another one holds. -/
theorem Box.store {w0 w : World} {F : Nat → Prop} {g g' : Nat} {t t' : WS} {n n' : Nat} (h : Box w0 w F g t n) (h' : Box w0 w F g' t' n') :
    ∃ C w', (Instr.loadAt 56 (.pointer (some ⟨g, 0, none⟩))).run Try.prog w = .ok (.agg C) w ∧ (Instr.storeAt 56 (.pointer (some ⟨g', 0, none⟩)) (.agg C)).run Try.prog w = .ok () w' ∧ Box w0 w' F g' t n ∧ Evo (fun k => k = g') w w' := by
  have hb := h'.boxed
  obtain ⟨⟨C, hC, hR⟩, h1, h2⟩ := h
  obtain ⟨⟨C', hC', hR'⟩, h1', h2'⟩ := h'
  obtain ⟨z1, z2, _⟩ := hR.cells
  obtain ⟨w', hst, hg, he⟩ := store56 w g' C' C hC' hR'.cells.1 z1 z2
  refine ⟨C, w', load56 w g C hC z1, hst, ⟨⟨C, hg, ?_⟩, h1', h2'⟩, he⟩
  obtain ⟨S, E, L, T, cs, ce, cl, ct, sl, ll, e, hD, hll⟩ := hR
  exact ⟨S, E, L, T, cs, ce, cl, ct, sl, ll, e, hD.keepF he hb, hll⟩
theorem st_box {w0 w w' : World} {b g : Nat} {t : WS} {F : Nat → Prop} (h : St w0 w b t F) (he : Evo (fun k => k = g) w w') (hg : w0.heap.size ≤ g) (hF : ¬ F g) : St w0 w' b t F :=
  ⟨h.rep.apart he (fun k hk e => hF (by have e : k = g := e; rw [← e]; exact hk)), h.evo.trans he (fun k hk => .inr (by have : k = g := hk; omega)), h.new⟩

set_option maxRecDepth 100000 in
set_option maxHeartbeats 8000000 in
theorem copies_walk (w : World) (va vb : Value) (ds es : List DoD) (ha : ArgD w va ds) (hb : ArgD w vb es) :
    Calls Try.prog 9 #[va, vb] w fun e w' => e = .returned (.bool true) ∧ Evo (fun _ => False) w w' := by
  have hlen := ha.len
  have hlen2 := hb.len
  have hsw := small_walk w va ds ha
  have hsw2 := small_walk w vb es hb
  obtain ⟨A, ca, rfl, hca⟩ : ∃ A c, va = .slice A ds.length c ∧ ds.length ≤ c := by obtain ⟨A, c, e, h, _⟩ := ha.src; exact ⟨A, c, e, h⟩
  obtain ⟨B, cb, rfl, hcb⟩ : ∃ A c, vb = .slice A es.length c ∧ es.length ≤ c := by obtain ⟨A, c, e, h, _⟩ := hb.src; exact ⟨A, c, e, h⟩
  by_cases hsm : ¬ (ds.length ≤ 40 ∧ longs ds ≤ 3000)
  · rw [decide_eq_false hsm] at hsw
    clear hsm hsw2
    go_enter Try.func9, Try.ntmps9
    go_wp2_with fail
    refine hsw.mono ?_
    rintro e w' ⟨rfl, rfl⟩
    go_wp2_with fail
    refine (known_walk w).mono ?_
    rintro e w' ⟨rfl, he⟩
    go_wp2_with fail
    go_ret
    exact ⟨rfl, he⟩
  rw [Classical.not_not] at hsm
  by_cases hsm2 : ¬ (es.length ≤ 40 ∧ longs es ≤ 3000)
  · rw [decide_eq_false hsm2] at hsw2
    rw [decide_eq_true hsm] at hsw
    clear hsm hsm2
    go_enter Try.func9, Try.ntmps9
    go_wp2_with fail
    refine hsw.mono ?_
    rintro e w' ⟨rfl, rfl⟩
    go_wp2_with fail
    refine hsw2.mono ?_
    rintro e w' ⟨rfl, rfl⟩
    go_wp2_with fail
    refine (known_walk w).mono ?_
    rintro e w' ⟨rfl, he⟩
    go_wp2_with fail
    go_ret
    exact ⟨rfl, he⟩
  rw [Classical.not_not] at hsm2
  rw [decide_eq_true hsm] at hsw
  rw [decide_eq_true hsm2] at hsw2
  go_enter Try.func9, Try.ntmps9
  go_wp2_with fail
  refine hsw.mono ?_
  rintro e w' ⟨rfl, rfl⟩
  go_wp2_with fail
  refine hsw2.mono ?_
  rintro e w' ⟨rfl, rfl⟩
  clear hsw hsw2
  go_wp2_with fail
  refine (R_new 4 w).mono ?_
  rintro e w1 ⟨gW, F1, rfl, hR1, hev1, hF1⟩
  have S1 : St w w1 gW (WS.new 4) F1 := ⟨hR1, hev1, hF1⟩
  clear hR1 hev1 hF1
  go_wp2_with fail
  refine (rnew_walk F1 w1 S1.rep.lt).mono ?_
  rintro e w2 ⟨v', rfl, hRT, ev2⟩
  obtain ⟨C', rfl, hC1, hC2, hT0⟩ := told_mkA (w0 := w) (l := []) (B := none) (c := 0) S1.evo.size S1.rep.lt ev2 hRT (SrcN.nil F1 w2)
  have S2 := (S1.turn ev2).turn ((Evo.refl (fun _ => False) w2).alloc (.cells C' 56))
  have hB0 := hT0.box
  have HC := Lib.hid (show C'.size = 10 ∧ C'.all (·.oneCell') = true from ⟨hC1, hC2⟩)
  clear hC1 hC2 hT0 hRT S1 ev2
  go_wp2_with (first | (refine wpList_run rfl (run_op_alloc rfl (alloc56 _)) ?_) | (refine wpList_void rfl (run_op_store rfl (store56_new _ _ HC.out.1 HC.out.2)) ?_))
  obtain ⟨gT, hgT⟩ : ∃ g, w2.heap.size = g := ⟨_, rfl⟩
  rw [hgT] at hB0 ⊢
  clear hgT
  generalize w2.alloc (.cells C' 56) = W0 at *
  clear HC
  try go_frame
  go_loopg [7, 8, 9, 10] ds.length (fun g0 i s8 s9 s10 wx => ∃ k : Nat, k ≤ ds.length ∧ g0 = ds.length - k ∧ i = .int .i64 k ∧
    ∃ t F, St w wx gW t F ∧ Box w wx F gT t k ∧ t.trace.length ≤ k)
  case atStart => exact ⟨0, by omega, rfl, rfl, _, _, S2, hB0, by simp [WS.new]⟩
  case round =>
    obtain ⟨k, hk, rfl, rfl, t, F, S, hbx, htr⟩ := hrel
    clear S2 hB0
    by_cases hkl : k < ds.length
    · have hkz : (k : Int) < (ds.length : Int) := by omega
      obtain ⟨pb, po, rfl, hcell⟩ := (ha.srcAt S.evo).doAt hkl
      have hda := ha.arg _ (List.getElem_mem hkl)
      have hdl : (ds[k]).b.length ≤ 3000 := Nat.le_trans (longs_each (List.getElem_mem hkl)) hsm.2
      have Hc : Hid (∀ w', Evo (fun _ => False) w w' → ∀ j u, (ds[k]).cells[j]? = some u → w'.cell? ⟨pb, po + k * 5 + j, none⟩ = some u) := fun w' he => by
        obtain ⟨pb', po', e, h1⟩ := (ha.srcAt he).doAt hkl
        cases e
        exact h1
      generalize ds[k] = d at *
      clear hcell
      have c0 : wr.cell? ⟨pb, po + k * 5, none⟩ = some (.int .i64 d.kind) := Hc.out wr S.evo 0 _ rfl
      have c1 : wr.cell? ⟨pb, po + k * 5 + 1, none⟩ = some (.int .i64 d.at_) := Hc.out wr S.evo 1 _ rfl
      have c2 : wr.cell? ⟨pb, po + k * 5 + 2, none⟩ = some (.int .i64 d.slot) := Hc.out wr S.evo 2 _ rfl
      have c3 : wr.cell? ⟨pb, po + k * 5 + 3, none⟩ = some (.int .i64 d.n) := Hc.out wr S.evo 3 _ rfl
      have c4 : wr.cell? ⟨pb, po + k * 5 + 4, none⟩ = some d.bv := Hc.out wr S.evo 4 _ rfl
      go_wp2_with fail
      clear c0 c1 c2 c3 c4
      refine (R_did S.rep d (hda.srcAt S.evo) (hda.ok (by omega)) (hda.hF S) (by omega)).mono ?_
      rintro e w4 ⟨vb, F4, rfl, hres, hg4⟩
      have S4 := S.goes hg4
      have hb4 := hbx.turn hg4.evo hg4.new hg4.old
      have hbd := bd_of_rep S.rep
      have htd := did_trace t d hbd.1.power0
      obtain ⟨RA, rc, rfl, _⟩ := id hres
      clear S hbx hg4 hres
      have hN4 := S4.rep.lt
      have hsd := hda.srcN S4
      have hstep := fun (wx : World) (he : Evo (fun _ => False) w4 wx) (C : Array Value) (hR : RefT F4 wx (.agg C) t k) => rstep_walk F4 wx (fun r hr => Nat.lt_of_lt_of_le (hN4 r hr) he.size) (.agg C) t k hR (by omega) hbd.1 hbd.2.1 hbd.2.2.1 d (hsd.evo0 he) (by omega)
      have Hstep := Lib.hid hstep
      have hge := hb4.ge
      have hbx0 := hb4
      obtain ⟨⟨CT, hCT, hRT⟩, _, hout⟩ := hb4
      obtain ⟨hz1, hz2, _⟩ := hRT.cells
      have Hz := Lib.hid hz1
      have hcd := Hc.out w4 S4.evo
      have hsv : ∀ wx, Evo (fun _ => False) w4 wx → (∀ (j : Nat) (u : Value), d.cells[j]? = some u → wx.cell? ⟨pb, po + k * 5 + j, none⟩ = some u) ∧ wx.heap[gT]? = some (.cells CT 56 (0, 0)) := fun wx he => ⟨Hc.out wx (S4.evo.two he), (he.block _ (heap_lt hCT) (fun hf => hf)).trans hCT⟩
      have HSV := Lib.hid hsv
      clear hstep hz1 hz2 hsv hbd
      go_wp2_with fail
      go_cut [8, 9, 10] (fun s8 s9 s10 wx => ∃ (g8 : Nat) (B : Option Addr) (c : Nat), s8 = .pointer (some ⟨g8, 0, none⟩) ∧ s9 = .slice B (t.didL d).length c ∧ s10 = .bool (t.didB d) ∧ Told w wx F4 g8 (t.did d) (k + 1) B c (t.didL d) ∧ Evo (fun _ => False) w4 wx)
      case first =>
        refine wp_region_plan (fun w' => (∀ (j : Nat) (u : Value), d.cells[j]? = some u → w'.cell? ⟨pb, po + k * 5 + j, none⟩ = some u) ∧ w'.heap[gT]? = some (.cells CT 56 (0, 0))) (.rds [0, 1, 2, 3, 4] (.two 5 (.rds [6, 7, 8, 9] (.act 10 (.act 11 (.rds [12, 13] .done)))) 10 (.act 5 (.rds [6, 7, 8, 9] (.act 11 (.rds [12, 13] .done)))))) 14 (by kernel_rfl) (by kernel_rfl) (by rfl) (by kernel_rfl) (fun _ _ _ _ _ h => h) (HSV.out _ ((Evo.refl _ w4).drew)) ?_
        try simp only [Plan.rds]
        apply plan_read
        · (simp only [List.getElem?_toArray, List.getElem?_cons_succ, List.getElem?_cons_zero]; rfl)
        · rfl
        · (intro w' hSw; exact run_op_load rfl (load56 _ _ _ hSw.2 Hz.out))
        simp only [Act.put, List.setIfInBounds_toArray, List.set_cons_zero, List.set_cons_succ]
        apply plan_read
        · (simp only [List.getElem?_toArray, List.getElem?_cons_succ, List.getElem?_cons_zero]; rfl)
        · rfl
        · (intro w' hSw; (try dsimp only at hSw); go_simp; (try go_bits); (try with_reducible rfl))
        simp only [Act.put, List.setIfInBounds_toArray, List.set_cons_zero, List.set_cons_succ]
        apply plan_read
        · (simp only [List.getElem?_toArray, List.getElem?_cons_succ, List.getElem?_cons_zero]; rfl)
        · rfl
        · (intro w' hSw; (try dsimp only at hSw); go_simp; (try go_bits); (try with_reducible rfl))
        simp only [Act.put, List.setIfInBounds_toArray, List.set_cons_zero, List.set_cons_succ]
        apply plan_read
        · (simp only [List.getElem?_toArray, List.getElem?_cons_succ, List.getElem?_cons_zero]; rfl)
        · rfl
        · (intro w' hSw; (try dsimp only at hSw); go_simp; (try go_bits); (try with_reducible rfl))
        simp only [Act.put, List.setIfInBounds_toArray, List.set_cons_zero, List.set_cons_succ]
        apply plan_read
        · (simp only [List.getElem?_toArray, List.getElem?_cons_succ, List.getElem?_cons_zero]; rfl)
        · rfl
        · (intro w' hSw; exact run_op_load rfl (load44 _ _ _ d hSw.1))
        simp only [Act.put, List.setIfInBounds_toArray, List.set_cons_zero, List.set_cons_succ]
        refine plan_two ?_ ?_
        ·
          first | apply plan_act | apply plan_op
          · (simp only [List.getElem?_toArray, List.getElem?_cons_succ, List.getElem?_cons_zero]; rfl)
          · rfl
          refine wp_k (fun K hK => ?_)
          go_simp
          refine (Hstep.out _ ((Evo.refl _ w4).drew) CT (hRT.evo0 ((Evo.refl _ w4).drew))).mono ?_
          rintro e w5 ⟨v', B, c, rfl, hR5, hs5, ev5⟩
          refine hK _ _ ⟨HSV.out _ (((Evo.refl _ w4).drew).two ev5), ?_⟩
          clear hK K
          try simp only [Act.put, List.setIfInBounds_toArray, List.set_cons_zero, List.set_cons_succ]
          obtain ⟨C', rfl, hC1, hC2, hT⟩ := told_mkA (w0 := w) S4.evo.size hN4 (((Evo.refl (fun _ => False) w4).drew).two ev5) hR5 hs5
          have HC := Lib.hid (show C'.size = 10 ∧ C'.all (·.oneCell') = true from ⟨hC1, hC2⟩)
          clear hC1 hC2
          repeat
            first
            | (apply plan_read
               · (simp only [List.getElem?_toArray, List.getElem?_cons_succ, List.getElem?_cons_zero]; rfl)
               · rfl
               · (intro w' hSw; (first | subst hSw | (try dsimp only at hSw)); go_simp; (try go_bits); (try with_reducible rfl))
               simp only [Act.put, List.setIfInBounds_toArray, List.set_cons_zero, List.set_cons_succ])
            | (apply plan_pass
               · (simp only [List.getElem?_toArray, List.getElem?_cons_succ, List.getElem?_cons_zero]; rfl)
               · rfl
               simp only [Act.put, List.setIfInBounds_toArray, List.set_cons_zero, List.set_cons_succ])
          first | apply plan_act | apply plan_op
          · (simp only [List.getElem?_toArray, List.getElem?_cons_succ, List.getElem?_cons_zero]; rfl)
          · rfl
          refine wp_val (run_op_alloc rfl (alloc56 w5)) ⟨HSV.out _ ((((Evo.refl _ w4).drew).two ev5).alloc _), ?_⟩
          try simp only [Act.put, List.setIfInBounds_toArray, List.set_cons_zero, List.set_cons_succ]
          first | apply plan_act | apply plan_op
          · (simp only [List.getElem?_toArray, List.getElem?_cons_succ, List.getElem?_cons_zero]; rfl)
          · rfl
          refine wp_void (run_op_store rfl (store56_new w5 C' HC.out.1 HC.out.2)) ⟨HSV.out _ ((((Evo.refl _ w4).drew).two ev5).alloc _), ?_⟩
          try simp only [Act.put, List.setIfInBounds_toArray, List.set_cons_zero, List.set_cons_succ]
          repeat
            first
            | (apply plan_read
               · (simp only [List.getElem?_toArray, List.getElem?_cons_succ, List.getElem?_cons_zero]; rfl)
               · rfl
               · (intro w' hSw; (first | subst hSw | (try dsimp only at hSw)); go_simp; (try go_bits); (try with_reducible rfl))
               simp only [Act.put, List.setIfInBounds_toArray, List.set_cons_zero, List.set_cons_succ])
            | (apply plan_pass
               · (simp only [List.getElem?_toArray, List.getElem?_cons_succ, List.getElem?_cons_zero]; rfl)
               · rfl
               simp only [Act.put, List.setIfInBounds_toArray, List.set_cons_zero, List.set_cons_succ])
          refine plan_done ?_
          go_wp2_with fail
          go_meet
          exact ⟨_, B, c, rfl, rfl, rfl, hT, (((Evo.refl _ w4).drew).two ev5).alloc _⟩
        ·
          first | apply plan_act | apply plan_op
          · (simp only [List.getElem?_toArray, List.getElem?_cons_succ, List.getElem?_cons_zero]; rfl)
          · rfl
          refine wp_val (run_op_alloc rfl (alloc56 w4.drew)) ⟨HSV.out _ (((Evo.refl _ w4).drew).alloc _), ?_⟩
          try simp only [Act.put, List.setIfInBounds_toArray, List.set_cons_zero, List.set_cons_succ]
          first | apply plan_act | apply plan_op
          · (simp only [List.getElem?_toArray, List.getElem?_cons_succ, List.getElem?_cons_zero]; rfl)
          · rfl
          refine wp_k (fun K hK => ?_)
          go_simp
          refine (Hstep.out _ (((Evo.refl _ w4).drew).alloc _) CT (hRT.evo0 (((Evo.refl _ w4).drew).alloc _))).mono ?_
          rintro e w5 ⟨v', B, c, rfl, hR5, hs5, ev5⟩
          refine hK _ _ ⟨HSV.out _ ((((Evo.refl _ w4).drew).alloc _).two ev5), ?_⟩
          clear hK K
          try simp only [Act.put, List.setIfInBounds_toArray, List.set_cons_zero, List.set_cons_succ]
          obtain ⟨C', rfl, hC1, hC2, w6, hst, he6, hT⟩ := told_mkB (w0 := w) (g := w4.heap.size) S4.evo.size ((ev5.block w4.heap.size (by simp) (fun hf => hf)).trans (heap_alloc_new w4.drew _)) (fun hf => by have := hN4 _ hf; omega) hR5 hs5
          have ev46 : Evo (fun _ => False) w4 w6 := ((((Evo.refl (fun _ => False) w4).drew).alloc _).two ev5).trans he6 (fun r hr => .inr (by have : r = w4.heap.size := hr; omega))
          have Hst := Lib.hid hst
          clear hst hC1 hC2
          repeat
            first
            | (apply plan_read
               · (simp only [List.getElem?_toArray, List.getElem?_cons_succ, List.getElem?_cons_zero]; rfl)
               · rfl
               · (intro w' hSw; (first | subst hSw | (try dsimp only at hSw)); go_simp; (try go_bits); (try with_reducible rfl))
               simp only [Act.put, List.setIfInBounds_toArray, List.set_cons_zero, List.set_cons_succ])
            | (apply plan_pass
               · (simp only [List.getElem?_toArray, List.getElem?_cons_succ, List.getElem?_cons_zero]; rfl)
               · rfl
               simp only [Act.put, List.setIfInBounds_toArray, List.set_cons_zero, List.set_cons_succ])
          first | apply plan_act | apply plan_op
          · (simp only [List.getElem?_toArray, List.getElem?_cons_succ, List.getElem?_cons_zero]; rfl)
          · rfl
          refine wp_void (run_op_store rfl Hst.out) ⟨HSV.out _ ev46, ?_⟩
          try simp only [Act.put, List.setIfInBounds_toArray, List.set_cons_zero, List.set_cons_succ]
          repeat
            first
            | (apply plan_read
               · (simp only [List.getElem?_toArray, List.getElem?_cons_succ, List.getElem?_cons_zero]; rfl)
               · rfl
               · (intro w' hSw; (first | subst hSw | (try dsimp only at hSw)); go_simp; (try go_bits); (try with_reducible rfl))
               simp only [Act.put, List.setIfInBounds_toArray, List.set_cons_zero, List.set_cons_succ])
            | (apply plan_pass
               · (simp only [List.getElem?_toArray, List.getElem?_cons_succ, List.getElem?_cons_zero]; rfl)
               · rfl
               simp only [Act.put, List.setIfInBounds_toArray, List.set_cons_zero, List.set_cons_succ])
          refine plan_done ?_
          go_wp2_with fail
          go_meet
          exact ⟨_, B, c, rfl, rfl, rfl, hT, ev46⟩
      case rest =>
        obtain ⟨g8, B8, c8, rfl, rfl, rfl, hT, ev45⟩ := hcut
        obtain ⟨C8, w6, hld, hst, hb6, he6⟩ := hT.box.store (hbx0.evo ev45)
        have S6 := st_box (S4.turn ev45) he6 hge hout
        have Hld := Lib.hid hld
        have Hst := Lib.hid hst
        have HS6 := Lib.hid S6
        clear hld hst S4 S6
        go_wp2_with (first | (refine wpList_run rfl (run_op_load rfl Hld.out) ?_) | (refine wpList_void rfl (run_op_store rfl Hst.out) ?_))
        go_roundg (ds.length - (k + 1))
        case measure => omega
        case rel => exact ⟨k + 1, by omega, rfl, by first | rfl | simp, _, _, HS6.out, hb6, by omega⟩
    · obtain rfl : k = ds.length := by omega
      go_wp2_with fail
      refine (R_copy S.rep).mono ?_
      rintro e w5 ⟨gC, FC, rfl, hRC, ev5, hFC⟩
      have S5 := S.turn ev5
      have hdis : ∀ r, F r → ¬ FC r := fun r h1 h2 => by have := S.rep.lt r h1; have := hFC r h2; omega
      have bT : Box w w5 FC gT t ds.length := (hbx.other hFC).evo ev5
      have S2 : St2 w w5 gW t F gC t FC := ⟨S5, ⟨hRC, S.evo.two ev5, fun r hr => Nat.le_trans S.evo.size (hFC r hr)⟩, hdis⟩
      have hF5 : ∀ r, F r → r < w5.heap.size := S5.rep.lt
      have hC5 : ∀ r, FC r → r < w5.heap.size := hRC.lt
      obtain ⟨⟨CT, hCT, hRT⟩, hgeT, houtT⟩ := id bT
      obtain ⟨hz1, hz2, _⟩ := hRT.cells
      have hld := load56 w5 gT CT hCT hz1
      have HC := Lib.hid (show CT.size = 10 ∧ CT.all (·.oneCell') = true from ⟨hz1, hz2⟩)
      have Hld := Lib.hid hld
      have hgT5 := heap_lt hCT
      have bV : Box w (w5.alloc (.cells CT 56)) FC w5.heap.size t ds.length := ⟨⟨CT, heap_alloc_new _ _, hRT.evo0 ((Evo.refl _ w5).alloc _)⟩, S5.evo.size, fun hf => by have := hC5 _ hf; omega⟩
      have S3 := S2.alloc (.cells CT 56)
      have bT3 := bT.evo ((Evo.refl _ w5).alloc (.cells CT 56))
      clear hld hz1 hz2 S S5 hbx S2 bT hRC hFC hdis
      go_wp2_with (first | (refine wpList_run rfl (run_op_load rfl Hld.out) ?_) | (refine wpList_run rfl (run_op_alloc rfl (alloc56 _)) ?_) | (refine wpList_void rfl (run_op_store rfl (store56_new _ _ HC.out.1 HC.out.2)) ?_))
      obtain ⟨gV, hgV⟩ : ∃ g, w5.heap.size = g := ⟨_, rfl⟩
      have hne : gT ≠ gV := by omega
      have hFV : ¬ F gV := fun hf => by have := hF5 _ hf; omega
      rw [hgV] at bV ⊢
      clear hgV hgT5 hF5 hC5
      generalize w5.alloc (.cells CT 56) = W7 at *
      clear HC Hld hRT houtT hgeT hCT
      try go_frame
      go_loopg [13, 14, 15, 16, 17, 18] es.length (fun g0 i s14 s15 s16 s17 s18 wx => ∃ k : Nat, k ≤ es.length ∧ g0 = es.length - k ∧ i = .int .i64 k ∧
        ∃ u G, St2 w wx gW t F gC u G ∧ Box w wx G gT t ds.length ∧ Box w wx G gV u (ds.length + k) ∧ u.trace.length ≤ ds.length + k)
      case atStart => exact ⟨0, by omega, rfl, rfl, _, _, S3, bT3, bV, by omega⟩
      case round =>
        obtain ⟨k, hk, rfl, rfl, u, G, S, hbT, hbV, htu⟩ := hrel
        clear S3 bT3 bV
        by_cases hkl : k < es.length
        · have hkz : (k : Int) < (es.length : Int) := by omega
          obtain ⟨pb, po, rfl, hcell⟩ := (hb.srcAt S.two.evo).doAt hkl
          have hda := hb.arg _ (List.getElem_mem hkl)
          have hdl : (es[k]).b.length ≤ 3000 := Nat.le_trans (longs_each (List.getElem_mem hkl)) hsm2.2
          have Hc : Hid (∀ w', Evo (fun _ => False) w w' → ∀ j u, (es[k]).cells[j]? = some u → w'.cell? ⟨pb, po + k * 5 + j, none⟩ = some u) := fun w' he => by
            obtain ⟨pb', po', e, h1⟩ := (hb.srcAt he).doAt hkl
            cases e
            exact h1
          generalize es[k] = d at *
          clear hcell
          have c0 : wr.cell? ⟨pb, po + k * 5, none⟩ = some (.int .i64 d.kind) := Hc.out wr S.two.evo 0 _ rfl
          have c1 : wr.cell? ⟨pb, po + k * 5 + 1, none⟩ = some (.int .i64 d.at_) := Hc.out wr S.two.evo 1 _ rfl
          have c2 : wr.cell? ⟨pb, po + k * 5 + 2, none⟩ = some (.int .i64 d.slot) := Hc.out wr S.two.evo 2 _ rfl
          have c3 : wr.cell? ⟨pb, po + k * 5 + 3, none⟩ = some (.int .i64 d.n) := Hc.out wr S.two.evo 3 _ rfl
          have c4 : wr.cell? ⟨pb, po + k * 5 + 4, none⟩ = some d.bv := Hc.out wr S.two.evo 4 _ rfl
          go_wp2_with fail
          clear c0 c1 c2 c3 c4
          refine (R_did S.two.rep d (hda.srcAt S.two.evo) (hda.ok (by omega)) (hda.hF S.two) (by omega)).mono ?_
          rintro e w4 ⟨vb, G4, rfl, hres, hg4⟩
          have S4 := S.right hg4
          have hbT4 := hbT.turn hg4.evo hg4.new hg4.old
          have hbV4 := hbV.turn hg4.evo hg4.new hg4.old
          have hbd := bd_of_rep S.two.rep
          have htd := did_trace u d hbd.1.power0
          have hbyt := didL_byt S.two.rep d
          have hmine := hres.mine S.two.evo
          obtain ⟨RA, rc, rfl, _⟩ := hmine.form rfl
          clear S hbT hbV hg4 hres
          have hN4 := S4.two.rep.lt
          have hsd := hda.srcN S4.two
          have hstep := fun (wx : World) (he : Evo (fun _ => False) w4 wx) (C : Array Value) (hR : RefT G4 wx (.agg C) u (ds.length + k)) => rstep_walk G4 wx (fun r hr => Nat.lt_of_lt_of_le (hN4 r hr) he.size) (.agg C) u (ds.length + k) hR (by omega) hbd.1 hbd.2.1 hbd.2.2.1 d (hsd.evo0 he) (by omega)
          have Hstep := Lib.hid hstep
          have hge := hbV4.ge
          have hbx0 := hbV4
          obtain ⟨⟨CT, hCT, hRT⟩, _, hout⟩ := hbV4
          obtain ⟨hz1, hz2, _⟩ := hRT.cells
          have Hz := Lib.hid hz1
          have hcd := Hc.out w4 S4.two.evo
          have hsv : ∀ wx, Evo (fun _ => False) w4 wx → (∀ (j : Nat) (u : Value), d.cells[j]? = some u → wx.cell? ⟨pb, po + k * 5 + j, none⟩ = some u) ∧ wx.heap[gV]? = some (.cells CT 56 (0, 0)) := fun wx he => ⟨Hc.out wx (S4.two.evo.two he), (he.block _ (heap_lt hCT) (fun hf => hf)).trans hCT⟩
          have HSV := Lib.hid hsv
          clear hstep hz1 hz2 hsv hbd
          go_wp2_with fail
          go_cut [16, 17, 18] (fun s8 s9 s10 wx => ∃ (g8 : Nat) (B : Option Addr) (c : Nat), s8 = .pointer (some ⟨g8, 0, none⟩) ∧ s9 = .slice B (u.didL d).length c ∧ s10 = .bool (u.didB d) ∧ Told w wx G4 g8 (u.did d) ((ds.length + k) + 1) B c (u.didL d) ∧ Evo (fun _ => False) w4 wx)
          case first =>
            refine wp_region_plan (fun w' => (∀ (j : Nat) (u : Value), d.cells[j]? = some u → w'.cell? ⟨pb, po + k * 5 + j, none⟩ = some u) ∧ w'.heap[gV]? = some (.cells CT 56 (0, 0))) (.rds [0, 1, 2, 3, 4] (.two 5 (.rds [6, 7, 8, 9] (.act 10 (.act 11 (.rds [12, 13] .done)))) 10 (.act 5 (.rds [6, 7, 8, 9] (.act 11 (.rds [12, 13] .done)))))) 14 (by kernel_rfl) (by kernel_rfl) (by rfl) (by kernel_rfl) (fun _ _ _ _ _ h => h) (HSV.out _ ((Evo.refl _ w4).drew)) ?_
            try simp only [Plan.rds]
            apply plan_read
            · (simp only [List.getElem?_toArray, List.getElem?_cons_succ, List.getElem?_cons_zero]; rfl)
            · rfl
            · (intro w' hSw; exact run_op_load rfl (load56 _ _ _ hSw.2 Hz.out))
            simp only [Act.put, List.setIfInBounds_toArray, List.set_cons_zero, List.set_cons_succ]
            apply plan_read
            · (simp only [List.getElem?_toArray, List.getElem?_cons_succ, List.getElem?_cons_zero]; rfl)
            · rfl
            · (intro w' hSw; (try dsimp only at hSw); go_simp; (try go_bits); (try with_reducible rfl))
            simp only [Act.put, List.setIfInBounds_toArray, List.set_cons_zero, List.set_cons_succ]
            apply plan_read
            · (simp only [List.getElem?_toArray, List.getElem?_cons_succ, List.getElem?_cons_zero]; rfl)
            · rfl
            · (intro w' hSw; (try dsimp only at hSw); go_simp; (try go_bits); (try with_reducible rfl))
            simp only [Act.put, List.setIfInBounds_toArray, List.set_cons_zero, List.set_cons_succ]
            apply plan_read
            · (simp only [List.getElem?_toArray, List.getElem?_cons_succ, List.getElem?_cons_zero]; rfl)
            · rfl
            · (intro w' hSw; (try dsimp only at hSw); go_simp; (try go_bits); (try with_reducible rfl))
            simp only [Act.put, List.setIfInBounds_toArray, List.set_cons_zero, List.set_cons_succ]
            apply plan_read
            · (simp only [List.getElem?_toArray, List.getElem?_cons_succ, List.getElem?_cons_zero]; rfl)
            · rfl
            · (intro w' hSw; exact run_op_load rfl (load44 _ _ _ d hSw.1))
            simp only [Act.put, List.setIfInBounds_toArray, List.set_cons_zero, List.set_cons_succ]
            refine plan_two ?_ ?_
            ·
              first | apply plan_act | apply plan_op
              · (simp only [List.getElem?_toArray, List.getElem?_cons_succ, List.getElem?_cons_zero]; rfl)
              · rfl
              refine wp_k (fun K hK => ?_)
              go_simp
              refine (Hstep.out _ ((Evo.refl _ w4).drew) CT (hRT.evo0 ((Evo.refl _ w4).drew))).mono ?_
              rintro e w5 ⟨v', B, c, rfl, hR5, hs5, ev5⟩
              refine hK _ _ ⟨HSV.out _ (((Evo.refl _ w4).drew).two ev5), ?_⟩
              clear hK K
              try simp only [Act.put, List.setIfInBounds_toArray, List.set_cons_zero, List.set_cons_succ]
              obtain ⟨C', rfl, hC1, hC2, hT⟩ := told_mkA (w0 := w) S4.two.evo.size hN4 (((Evo.refl (fun _ => False) w4).drew).two ev5) hR5 hs5
              have HC := Lib.hid (show C'.size = 10 ∧ C'.all (·.oneCell') = true from ⟨hC1, hC2⟩)
              clear hC1 hC2
              repeat
                first
                | (apply plan_read
                   · (simp only [List.getElem?_toArray, List.getElem?_cons_succ, List.getElem?_cons_zero]; rfl)
                   · rfl
                   · (intro w' hSw; (first | subst hSw | (try dsimp only at hSw)); go_simp; (try go_bits); (try with_reducible rfl))
                   simp only [Act.put, List.setIfInBounds_toArray, List.set_cons_zero, List.set_cons_succ])
                | (apply plan_pass
                   · (simp only [List.getElem?_toArray, List.getElem?_cons_succ, List.getElem?_cons_zero]; rfl)
                   · rfl
                   simp only [Act.put, List.setIfInBounds_toArray, List.set_cons_zero, List.set_cons_succ])
              first | apply plan_act | apply plan_op
              · (simp only [List.getElem?_toArray, List.getElem?_cons_succ, List.getElem?_cons_zero]; rfl)
              · rfl
              refine wp_val (run_op_alloc rfl (alloc56 w5)) ⟨HSV.out _ ((((Evo.refl _ w4).drew).two ev5).alloc _), ?_⟩
              try simp only [Act.put, List.setIfInBounds_toArray, List.set_cons_zero, List.set_cons_succ]
              first | apply plan_act | apply plan_op
              · (simp only [List.getElem?_toArray, List.getElem?_cons_succ, List.getElem?_cons_zero]; rfl)
              · rfl
              refine wp_void (run_op_store rfl (store56_new w5 C' HC.out.1 HC.out.2)) ⟨HSV.out _ ((((Evo.refl _ w4).drew).two ev5).alloc _), ?_⟩
              try simp only [Act.put, List.setIfInBounds_toArray, List.set_cons_zero, List.set_cons_succ]
              repeat
                first
                | (apply plan_read
                   · (simp only [List.getElem?_toArray, List.getElem?_cons_succ, List.getElem?_cons_zero]; rfl)
                   · rfl
                   · (intro w' hSw; (first | subst hSw | (try dsimp only at hSw)); go_simp; (try go_bits); (try with_reducible rfl))
                   simp only [Act.put, List.setIfInBounds_toArray, List.set_cons_zero, List.set_cons_succ])
                | (apply plan_pass
                   · (simp only [List.getElem?_toArray, List.getElem?_cons_succ, List.getElem?_cons_zero]; rfl)
                   · rfl
                   simp only [Act.put, List.setIfInBounds_toArray, List.set_cons_zero, List.set_cons_succ])
              refine plan_done ?_
              go_wp2_with fail
              go_meet
              exact ⟨_, B, c, rfl, rfl, rfl, hT, (((Evo.refl _ w4).drew).two ev5).alloc _⟩
            ·
              first | apply plan_act | apply plan_op
              · (simp only [List.getElem?_toArray, List.getElem?_cons_succ, List.getElem?_cons_zero]; rfl)
              · rfl
              refine wp_val (run_op_alloc rfl (alloc56 w4.drew)) ⟨HSV.out _ (((Evo.refl _ w4).drew).alloc _), ?_⟩
              try simp only [Act.put, List.setIfInBounds_toArray, List.set_cons_zero, List.set_cons_succ]
              first | apply plan_act | apply plan_op
              · (simp only [List.getElem?_toArray, List.getElem?_cons_succ, List.getElem?_cons_zero]; rfl)
              · rfl
              refine wp_k (fun K hK => ?_)
              go_simp
              refine (Hstep.out _ (((Evo.refl _ w4).drew).alloc _) CT (hRT.evo0 (((Evo.refl _ w4).drew).alloc _))).mono ?_
              rintro e w5 ⟨v', B, c, rfl, hR5, hs5, ev5⟩
              refine hK _ _ ⟨HSV.out _ ((((Evo.refl _ w4).drew).alloc _).two ev5), ?_⟩
              clear hK K
              try simp only [Act.put, List.setIfInBounds_toArray, List.set_cons_zero, List.set_cons_succ]
              obtain ⟨C', rfl, hC1, hC2, w6, hst, he6, hT⟩ := told_mkB (w0 := w) (g := w4.heap.size) S4.two.evo.size ((ev5.block w4.heap.size (by simp) (fun hf => hf)).trans (heap_alloc_new w4.drew _)) (fun hf => by have := hN4 _ hf; omega) hR5 hs5
              have ev46 : Evo (fun _ => False) w4 w6 := ((((Evo.refl (fun _ => False) w4).drew).alloc _).two ev5).trans he6 (fun r hr => .inr (by have : r = w4.heap.size := hr; omega))
              have Hst := Lib.hid hst
              clear hst hC1 hC2
              repeat
                first
                | (apply plan_read
                   · (simp only [List.getElem?_toArray, List.getElem?_cons_succ, List.getElem?_cons_zero]; rfl)
                   · rfl
                   · (intro w' hSw; (first | subst hSw | (try dsimp only at hSw)); go_simp; (try go_bits); (try with_reducible rfl))
                   simp only [Act.put, List.setIfInBounds_toArray, List.set_cons_zero, List.set_cons_succ])
                | (apply plan_pass
                   · (simp only [List.getElem?_toArray, List.getElem?_cons_succ, List.getElem?_cons_zero]; rfl)
                   · rfl
                   simp only [Act.put, List.setIfInBounds_toArray, List.set_cons_zero, List.set_cons_succ])
              first | apply plan_act | apply plan_op
              · (simp only [List.getElem?_toArray, List.getElem?_cons_succ, List.getElem?_cons_zero]; rfl)
              · rfl
              refine wp_void (run_op_store rfl Hst.out) ⟨HSV.out _ ev46, ?_⟩
              try simp only [Act.put, List.setIfInBounds_toArray, List.set_cons_zero, List.set_cons_succ]
              repeat
                first
                | (apply plan_read
                   · (simp only [List.getElem?_toArray, List.getElem?_cons_succ, List.getElem?_cons_zero]; rfl)
                   · rfl
                   · (intro w' hSw; (first | subst hSw | (try dsimp only at hSw)); go_simp; (try go_bits); (try with_reducible rfl))
                   simp only [Act.put, List.setIfInBounds_toArray, List.set_cons_zero, List.set_cons_succ])
                | (apply plan_pass
                   · (simp only [List.getElem?_toArray, List.getElem?_cons_succ, List.getElem?_cons_zero]; rfl)
                   · rfl
                   simp only [Act.put, List.setIfInBounds_toArray, List.set_cons_zero, List.set_cons_succ])
              refine plan_done ?_
              go_wp2_with fail
              go_meet
              exact ⟨_, B, c, rfl, rfl, rfl, hT, ev46⟩

          case rest =>
            obtain ⟨g8, B8, c8, rfl, rfl, rfl, hT, ev45⟩ := hcut
            have hbV5 := hbx0.evo ev45
            obtain ⟨C8, w6, hld, hst, hb6, he6⟩ := hT.box.store hbV5
            have hT6 := (hbT4.evo ev45).beside he6 hbV5.boxed hne
            have S6 : St2 w w6 gW t F gC (u.did d) G4 := ⟨st_box (S4.one.turn ev45) he6 hge hFV, st_box (S4.two.turn ev45) he6 hge hout, S4.dis⟩
            have hsA := (hmine.turn ev45).src.keepF he6 hbV5.boxed
            have hsB := (hT.src.keepF he6 hbV5.boxed).1
            have hsame := same_walk _ _ (u.didL d) (u.didL d) w6 hsA hsB hbyt hbyt
            rw [decide_eq_true rfl] at hsame
            have Hld := Lib.hid hld
            have Hst := Lib.hid hst
            have HS6 := Lib.hid S6
            clear hld hst S4 S6 hmine
            generalize u.didB d = bb at *
            go_wp2_with (first | (refine wpList_run rfl (run_op_load rfl Hld.out) ?_) | (refine wpList_void rfl (run_op_store rfl Hst.out) ?_))
            refine hsame.mono ?_
            rintro e w' ⟨rfl, rfl⟩
            cases bb <;>
            · go_wp2
              go_roundg (es.length - (k + 1))
              case measure => omega
              case rel => exact ⟨k + 1, by omega, rfl, by first | rfl | simp, _, _, HS6.out, hT6, by rw [Nat.add_assoc] at hb6; exact hb6, by omega⟩
        · obtain rfl : k = es.length := by omega
          have hbdT := bd_of_rep S.one.rep
          have hbdU := bd_of_rep S.two.rep
          obtain ⟨⟨CT, hCT, hRT⟩, _, _⟩ := id hbT
          obtain ⟨⟨CV, hCV, hRV⟩, _, _⟩ := id hbV
          obtain ⟨_, _, _, T1, k1, q9, q8, hT1⟩ := hRT.cells
          obtain ⟨_, _, _, T2, k2, p9, _, hT2⟩ := hRV.cells
          have hsv : ∀ wx, Evo (fun _ => False) wr wx → wx.heap[gT]? = some (.cells CT 56 (0, 0)) ∧ wx.cell? ⟨gT, 9, none⟩ = some (.slice T1 t.trace.length k1) ∧ wx.cell? ⟨gV, 9, none⟩ = some (.slice T2 u.trace.length k2) ∧ wx.cell? ⟨gT, 8, none⟩ = some (.bool t.dead) := fun wx he => by
            have h1 := (he.block _ (heap_lt hCT) (fun hf => hf)).trans hCT
            have h2 := (he.block _ (heap_lt hCV) (fun hf => hf)).trans hCV
            exact ⟨h1, (blk_cell h1 9).trans q9, (blk_cell h2 9).trans p9, (blk_cell h1 8).trans q8⟩
          obtain ⟨S9, E9, L9, T9, cs9, ce9, cl9, ct9, sl9, ll9, eCT, hD9, hll9⟩ := id hRT
          obtain rfl : CT = tcells t (.slice S9 8 cs9) (.slice E9 2 ce9) (.slice L9 ll9.length cl9) (.slice T9 t.trace.length ct9) := by injection eCT
          have HSV := Lib.hid hsv
          have hdrw : Evo (fun _ => False) wr wr.drew := (Evo.refl _ wr).drew
          clear hsv eCT hD9 q9 q8 p9 hCT hCV hRT hRV
          go_wp2_with fail
          refine wp_region_plan (fun w' => w'.heap[gT]? = some (.cells (tcells t (.slice S9 8 cs9) (.slice E9 2 ce9) (.slice L9 ll9.length cl9) (.slice T9 t.trace.length ct9)) 56 (0, 0)) ∧ w'.cell? ⟨gT, 9, none⟩ = some (.slice T1 t.trace.length k1) ∧ w'.cell? ⟨gV, 9, none⟩ = some (.slice T2 u.trace.length k2) ∧ w'.cell? ⟨gT, 8, none⟩ = some (.bool t.dead)) (.rds [0, 2, 3] (.act 1 (.act 4 (.rds [5, 6, 8, 9] (.act 7 (.act 10 (.rds [11, 12, 13, 15] (.act 14 (.act 16 (.rds [17, 18, 19, 20, 22, 23] (.act 21 (.rds [24, 25, 26] (.act 27 (.rds [28, 29] .done)))))))))))))) 30 (by kernel_rfl) (by kernel_rfl) (by rfl) (by kernel_rfl) (fun _ _ _ _ _ h => h) (HSV.out _ hdrw) ?_
          try simp only [Plan.rds]
          repeat
            first
            | (apply plan_read
               · (simp only [List.getElem?_toArray, List.getElem?_cons_succ, List.getElem?_cons_zero]; rfl)
               · rfl
               · (intro w' hSw; (first | subst hSw | (try dsimp only at hSw)); go_simp; (try go_bits); (try with_reducible rfl))
               simp only [Act.put, List.setIfInBounds_toArray, List.set_cons_zero, List.set_cons_succ])
            | (apply plan_pass
               · (simp only [List.getElem?_toArray, List.getElem?_cons_succ, List.getElem?_cons_zero]; rfl)
               · rfl
               simp only [Act.put, List.setIfInBounds_toArray, List.set_cons_zero, List.set_cons_succ])
          first | apply plan_act | apply plan_op
          · (simp only [List.getElem?_toArray, List.getElem?_cons_succ, List.getElem?_cons_zero]; rfl)
          · rfl
          refine wp_k (fun K hK => ?_)
          go_simp
          refine (R_trace (S.one.turn hdrw).rep).mono ?_
          rintro e wB ⟨v1, u1, rfl, hO1, evB⟩
          refine hK _ _ ⟨HSV.out _ (hdrw.two evB), ?_⟩
          clear hK K
          try simp only [Act.put, List.setIfInBounds_toArray, List.set_cons_zero, List.set_cons_succ]
          have eB := hdrw.two evB
          obtain ⟨A1, a1, rfl, _⟩ := hO1.src.form
          first | apply plan_act | apply plan_op
          · (simp only [List.getElem?_toArray, List.getElem?_cons_succ, List.getElem?_cons_zero]; rfl)
          · rfl
          refine wp_k (fun K hK => ?_)
          go_simp
          refine (sameTrace_walk wB _ _ t.trace hO1.src (hT1.evo0 eB).src (by have := hbdT.1.tlen; omega)).mono ?_
          rintro e wC ⟨rfl, evC⟩
          refine hK _ _ ⟨HSV.out _ (eB.two evC), ?_⟩
          clear hK K
          try simp only [Act.put, List.setIfInBounds_toArray, List.set_cons_zero, List.set_cons_succ]
          have eC := eB.two evC
          repeat
            first
            | (apply plan_read
               · (simp only [List.getElem?_toArray, List.getElem?_cons_succ, List.getElem?_cons_zero]; rfl)
               · rfl
               · (intro w' hSw; (first | subst hSw | (try dsimp only at hSw)); go_simp; (try go_bits); (try with_reducible rfl))
               simp only [Act.put, List.setIfInBounds_toArray, List.set_cons_zero, List.set_cons_succ])
            | (apply plan_pass
               · (simp only [List.getElem?_toArray, List.getElem?_cons_succ, List.getElem?_cons_zero]; rfl)
               · rfl
               simp only [Act.put, List.setIfInBounds_toArray, List.set_cons_zero, List.set_cons_succ])
          first | apply plan_act | apply plan_op
          · (simp only [List.getElem?_toArray, List.getElem?_cons_succ, List.getElem?_cons_zero]; rfl)
          · rfl
          refine wp_k (fun K hK => ?_)
          go_simp
          refine (R_trace (S.two.turn eC).rep).mono ?_
          rintro e wD ⟨v2, u2, rfl, hO2, evD⟩
          refine hK _ _ ⟨HSV.out _ (eC.two evD), ?_⟩
          clear hK K
          try simp only [Act.put, List.setIfInBounds_toArray, List.set_cons_zero, List.set_cons_succ]
          have eD := eC.two evD
          obtain ⟨A2, a2, rfl, _⟩ := hO2.src.form
          first | apply plan_act | apply plan_op
          · (simp only [List.getElem?_toArray, List.getElem?_cons_succ, List.getElem?_cons_zero]; rfl)
          · rfl
          refine wp_k (fun K hK => ?_)
          go_simp
          refine (sameTrace_walk wD _ _ u.trace hO2.src (hT2.evo0 eD).src (by have := hbdU.1.tlen; omega)).mono ?_
          rintro e wE ⟨rfl, evE⟩
          refine hK _ _ ⟨HSV.out _ (eD.two evE), ?_⟩
          clear hK K
          try simp only [Act.put, List.setIfInBounds_toArray, List.set_cons_zero, List.set_cons_succ]
          have eE := eD.two evE
          apply plan_read
          · (simp only [List.getElem?_toArray, List.getElem?_cons_succ, List.getElem?_cons_zero]; rfl)
          · rfl
          · (intro w' hSw; (try dsimp only at hSw); go_simp; (try go_bits); (try with_reducible rfl))
          simp only [Act.put, List.setIfInBounds_toArray, List.set_cons_zero, List.set_cons_succ]
          apply plan_read
          · (simp only [List.getElem?_toArray, List.getElem?_cons_succ, List.getElem?_cons_zero]; rfl)
          · rfl
          · (intro w' hSw; (try dsimp only at hSw); go_simp; (try go_bits); (try with_reducible rfl))
          simp only [Act.put, List.setIfInBounds_toArray, List.set_cons_zero, List.set_cons_succ]
          apply plan_read
          · (simp only [List.getElem?_toArray, List.getElem?_cons_succ, List.getElem?_cons_zero]; rfl)
          · rfl
          · (intro w' hSw; (try dsimp only at hSw); go_simp; (try go_bits); (try with_reducible rfl))
          simp only [Act.put, List.setIfInBounds_toArray, List.set_cons_zero, List.set_cons_succ]
          apply plan_read
          · (simp only [List.getElem?_toArray, List.getElem?_cons_succ, List.getElem?_cons_zero]; rfl)
          · rfl
          · (intro w' hSw; exact run_op_load rfl (load56 _ _ _ hSw.1 rfl))
          simp only [Act.put, List.setIfInBounds_toArray, List.set_cons_zero, List.set_cons_succ]
          first | apply plan_act | apply plan_op
          · (simp only [List.getElem?_toArray, List.getElem?_cons_succ, List.getElem?_cons_zero]; rfl)
          · rfl
          refine wp_k (fun K hK => ?_)
          go_simp
          refine (R_counter (S.one.turn eE).rep).mono ?_
          rintro e w' ⟨rfl, rfl⟩
          refine hK _ _ ⟨HSV.out _ eE, ?_⟩
          clear hK K
          try simp only [Act.put, List.setIfInBounds_toArray, List.set_cons_zero, List.set_cons_succ]
          first | apply plan_act | apply plan_op
          · (simp only [List.getElem?_toArray, List.getElem?_cons_succ, List.getElem?_cons_zero]; rfl)
          · rfl
          refine wp_k (fun K hK => ?_)
          go_simp
          refine (rcounter_walk wE t S9 E9 L9 T9 8 cs9 2 ce9 ll9.length cl9 t.trace.length ct9).mono ?_
          rintro e wF ⟨rfl, evF⟩
          refine hK _ _ ⟨HSV.out _ (eE.two evF), ?_⟩
          clear hK K
          try simp only [Act.put, List.setIfInBounds_toArray, List.set_cons_zero, List.set_cons_succ]
          have eF := eE.two evF
          repeat
            first
            | (apply plan_read
               · (simp only [List.getElem?_toArray, List.getElem?_cons_succ, List.getElem?_cons_zero]; rfl)
               · rfl
               · (intro w' hSw; (first | subst hSw | (try dsimp only at hSw)); go_simp; (try go_bits); (try with_reducible rfl))
               simp only [Act.put, List.setIfInBounds_toArray, List.set_cons_zero, List.set_cons_succ])
            | (apply plan_pass
               · (simp only [List.getElem?_toArray, List.getElem?_cons_succ, List.getElem?_cons_zero]; rfl)
               · rfl
               simp only [Act.put, List.setIfInBounds_toArray, List.set_cons_zero, List.set_cons_succ])
          first | apply plan_act | apply plan_op
          · (simp only [List.getElem?_toArray, List.getElem?_cons_succ, List.getElem?_cons_zero]; rfl)
          · rfl
          refine wp_k (fun K hK => ?_)
          go_simp
          refine (R_dead (S.one.turn eF).rep).mono ?_
          rintro e w' ⟨rfl, rfl⟩
          refine hK _ _ ⟨HSV.out _ eF, ?_⟩
          clear hK K
          try simp only [Act.put, List.setIfInBounds_toArray, List.set_cons_zero, List.set_cons_succ]
          repeat
            first
            | (apply plan_read
               · (simp only [List.getElem?_toArray, List.getElem?_cons_succ, List.getElem?_cons_zero]; rfl)
               · rfl
               · (intro w' hSw; (first | subst hSw | (try dsimp only at hSw)); go_simp; (try go_bits); (try with_reducible rfl))
               simp only [Act.put, List.setIfInBounds_toArray, List.set_cons_zero, List.set_cons_succ])
            | (apply plan_pass
               · (simp only [List.getElem?_toArray, List.getElem?_cons_succ, List.getElem?_cons_zero]; rfl)
               · rfl
               simp only [Act.put, List.setIfInBounds_toArray, List.set_cons_zero, List.set_cons_succ])
          first | apply plan_act | apply plan_op
          · (simp only [List.getElem?_toArray, List.getElem?_cons_succ, List.getElem?_cons_zero]; rfl)
          · rfl
          refine wp_k (fun K hK => ?_)
          go_simp
          refine (known_walk wF).mono ?_
          rintro e wG ⟨rfl, evG⟩
          refine hK _ _ ⟨HSV.out _ (eF.two evG), ?_⟩
          clear hK K
          try simp only [Act.put, List.setIfInBounds_toArray, List.set_cons_zero, List.set_cons_succ]
          repeat
            first
            | (apply plan_read
               · (simp only [List.getElem?_toArray, List.getElem?_cons_succ, List.getElem?_cons_zero]; rfl)
               · rfl
               · (intro w' hSw; (first | subst hSw | (try dsimp only at hSw)); go_simp; (try go_bits); (try with_reducible rfl))
               simp only [Act.put, List.setIfInBounds_toArray, List.set_cons_zero, List.set_cons_succ])
            | (apply plan_pass
               · (simp only [List.getElem?_toArray, List.getElem?_cons_succ, List.getElem?_cons_zero]; rfl)
               · rfl
               simp only [Act.put, List.setIfInBounds_toArray, List.set_cons_zero, List.set_cons_succ])
          refine plan_done ?_
          have eG := S.one.evo.two (eF.two evG)
          clear HSV hbdT hbdU hT1 hT2 hO1 hO2 S hbT hbV
          go_wp2
          go_ret
          exact ⟨rfl, eG⟩
end Go.Proofs.Ytnndkameadlkdaa
