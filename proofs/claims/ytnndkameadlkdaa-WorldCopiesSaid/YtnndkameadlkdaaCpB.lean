/- The walk of World.Copy. -/
import Derived.Test.YtnndkameadlkdaaCpA
import Derived.Deep.RegionHeld3
import Derived.Deep.DeepCutAuto
import Derived.Deep.LoopGhost
import Derived.WalkMore
namespace Go.Proofs.Ytnndkameadlkdaa
open Go.RowKit

theorem run_sizeOf22 (w : World) : (sizeOf 22).run Try.prog w = .ok 1 w := by kernel_rfl
theorem index66_0 (A0 A1 : Option Addr) (n0 n1 c0 c1 : Nat) (w : World) : (Instr.index 66 (.agg #[.slice A0 n0 c0, .slice A1 n1 c1]) (.int .i64 0)).run Try.prog w = .ok (.slice A0 n0 c0) w := by kernel_rfl
theorem index66_1 (A0 A1 : Option Addr) (n0 n1 c0 c1 : Nat) (w : World) : (Instr.index 66 (.agg #[.slice A0 n0 c0, .slice A1 n1 c1]) (.int .i64 1)).run Try.prog w = .ok (.slice A1 n1 c1) w := by kernel_rfl

def SealsTo (t : WS) (z : Int → List Int) (k : Nat) : Prop := ∀ i, z i = if (i = 0 ∧ k = 0) ∨ (i = 1 ∧ k ≤ 1) then [] else t.seals i
theorem seals_step0 {t : WS} {z : Int → List Int} (h : SealsTo t z 0) (hn : t.seals 0 = []) : SealsTo t z 1 := fun i => by
  rw [h i]; by_cases h0 : i = 0
  · subst h0; simp [hn]
  · simp [h0]
theorem seals_step1 {t : WS} {z : Int → List Int} (h : SealsTo t z 1) (hn : t.seals 1 = []) : SealsTo t z 2 := fun i => by
  rw [h i]; by_cases h0 : i = 1
  · subst h0; simp [hn]
  · simp [h0]
theorem seals_set0 {t : WS} {z : Int → List Int} (h : SealsTo t z 0) : SealsTo t (fun j => if j = 0 then t.seals 0 else z j) 1 := fun i => by
  show (if i = 0 then t.seals 0 else z i) = _
  rw [h i]; by_cases h0 : i = 0
  · subst h0; simp
  · simp [h0]
theorem seals_set1 {t : WS} {z : Int → List Int} (h : SealsTo t z 1) : SealsTo t (fun j => if j = 1 then t.seals 1 else z j) 2 := fun i => by
  show (if i = 1 then t.seals 1 else z i) = _
  rw [h i]; by_cases h0 : i = 1
  · subst h0; simp
  · simp [h0]

section
variable {w : World} {b : Nat} {t : WS} {F : Nat → Prop}

theorem cs_evo {w1 w2 : World} (h : w1.cell? ⟨b, 0, none⟩ = some (.int .i64 t.blocks) ∧ w1.cell? ⟨b, 4, none⟩ = some (.int .u64 t.counter) ∧ w1.cell? ⟨b, 7, none⟩ = some (.bool t.armed) ∧ w1.cell? ⟨b, 8, none⟩ = some (.int .i64 t.power) ∧ w1.cell? ⟨b, 9, none⟩ = some (.bool t.dead)) (he : Evo (fun _ => False) w1 w2) :
    w2.cell? ⟨b, 0, none⟩ = some (.int .i64 t.blocks) ∧ w2.cell? ⟨b, 4, none⟩ = some (.int .u64 t.counter) ∧ w2.cell? ⟨b, 7, none⟩ = some (.bool t.armed) ∧ w2.cell? ⟨b, 8, none⟩ = some (.int .i64 t.power) ∧ w2.cell? ⟨b, 9, none⟩ = some (.bool t.dead) := by
  have k : ∀ i v, w1.cell? ⟨b, i, none⟩ = some v → w2.cell? ⟨b, i, none⟩ = some v := fun i v hv => (he.cell (World.block_lt_of_cell? _ _ hv) (fun hf => hf)).trans hv
  exact ⟨k _ _ h.1, k _ _ h.2.1, k _ _ h.2.2.1, k _ _ h.2.2.2.1, k _ _ h.2.2.2.2⟩

set_option maxRecDepth 100000 in
set_option maxHeartbeats 1000000 in
theorem R_copy (hR : Rep w b t F) : Calls Try.prog 30 #[wp0 b] w fun e w' => ∃ c F', e = .returned (wp0 c) ∧ Rep w' c t F' ∧ Evo (fun _ => False) w w' ∧ ∀ k, F' k → w.heap.size ≤ k := by
  have hmm := @run_makeMap Try.prog
  obtain ⟨i5, hi5, hz5, hs5, hb5⟩ := info_parts Try.info5
  have X0 := index66_0
  have X1 := index66_1
  have hRep := hR
  obtain ⟨⟨ms, ml, s0, s1, tv, M, L, bs, h⟩, hrd⟩ := hR
  have c0 : w.cell? ⟨b, 0, none⟩ = some (.int .i64 t.blocks) := blk_cell h.cell 0
  have c4 : w.cell? ⟨b, 4, none⟩ = some (.int .u64 t.counter) := blk_cell h.cell 4
  have c7 : w.cell? ⟨b, 7, none⟩ = some (.bool t.armed) := blk_cell h.cell 7
  have c8 : w.cell? ⟨b, 8, none⟩ = some (.int .i64 t.power) := blk_cell h.cell 8
  have c9 : w.cell? ⟨b, 9, none⟩ = some (.bool t.dead) := blk_cell h.cell 9
  go_enter Try.func30, Try.ntmps30
  go_wp2_with fail
  go_step3
  go_wp2_with fail
  go_cut [3] (fun s3 wx => ∃ (c ma mb : Nat) (wl : World) (v : Value), s3 = wp0 c ∧ Parts w wl t ma mb v ∧ wx = wl.alloc (.cells (wcells t.bare ma mb (.slice none 0 0) (.slice none 0 0) v) 73) ∧ c = wl.heap.size)
  case first =>
    go_region_held3 (fun w' => w'.cell? ⟨b, 0, none⟩ = some (.int .i64 t.blocks) ∧ w'.cell? ⟨b, 4, none⟩ = some (.int .u64 t.counter) ∧ w'.cell? ⟨b, 7, none⟩ = some (.bool t.armed) ∧ w'.cell? ⟨b, 8, none⟩ = some (.int .i64 t.power) ∧ w'.cell? ⟨b, 9, none⟩ = some (.bool t.dead)) (first | go_keep | exact cs_evo ⟨c0, c4, c7, c8, c9⟩ (Evo.two (by (repeat (first | exact Evo.refl _ _ | refine Evo.drew ?_ | refine Evo.alloc ?_ _))) hev))
      (first | (go_at_call 26; refine (R_trace (hRep.apart (F0 := fun _ => False) (by (repeat (first | exact Evo.refl _ _ | refine Evo.drew ?_ | refine Evo.alloc ?_ _))) (fun _ _ h => h))).mono ?_; rintro e w' ⟨v, us, rfl, htr, hev⟩; obtain ⟨At, ct, rfl, _⟩ := ownsRow_slice htr.row))
    all_goals (go_wp2_with fail; go_meet; first | exact ⟨_, _, _, _, _, rfl, leaf1 hev htr, rfl, by simp⟩ | exact ⟨_, _, _, _, _, rfl, leaf2 hev htr, rfl, by simp⟩ | exact ⟨_, _, _, _, _, rfl, leaf3 hev htr, rfl, by simp⟩ | exact ⟨_, _, _, _, _, rfl, leaf4 hev htr, rfl, by simp⟩ | exact ⟨_, _, _, _, _, rfl, leaf5 hev htr, rfl, by simp⟩ | exact ⟨_, _, _, _, _, rfl, leaf6 hev htr, rfl, by simp⟩)
  case rest =>
    obtain ⟨c, ma, mb, wl, v, rfl, hP, rfl, hc⟩ := hcut
    have hR0 := hP.rep hRep
    rw [← hc] at hR0
    have ev0 : Evo (fun _ => False) w (wl.alloc (.cells (wcells t.bare ma mb (.slice none 0 0) (.slice none 0 0) v) 73)) := hP.ev.alloc _
    have hcw : w.heap.size ≤ c := by have := hP.ev.size; omega
    generalize (wl.alloc (.cells (wcells t.bare ma mb (.slice none 0 0) (.slice none 0 0) v) 73)) = W0 at *
    obtain ⟨F0, hF0e⟩ : ∃ F0 : Nat → Prop, F0 = (fun k => w.heap.size ≤ k ∧ k < c + 1) := ⟨_, rfl⟩
    rw [← hF0e] at hR0
    have hF0 : ∀ k, F0 k → w.heap.size ≤ k := fun k hk => by rw [hF0e] at hk; exact hk.1
    clear hF0e
    clear hP hc
    obtain ⟨d6, e6, hR1, hFc⟩ := rep_reads (w := W0.drew) (hR0.apart ((Evo.refl (fun _ => False) W0).drew) (fun _ _ hf => hf)) h.reads0 h.reads1 hrd
    have c6 : W0.drew.cell? ⟨b, 6, none⟩ = some (.int .i64 t.reads) := (ev0.drew.cell (heap_lt h.cell) (fun hf => hf)).trans (blk_cell h.cell 6)
    have ev1 : Evo (fun _ => False) w (W0.drew.setCell ⟨c, 6, none⟩ (.int .i64 t.reads)) := ev0.drew.setCell (p := ⟨c, 6, none⟩) (.inr hcw) _
    have k1 := load64 b t.reads W0.drew c6
    have k2 := store64 c 0 t.reads W0.drew d6 e6
    clear c0 c4 c7 c8 c9 c6 d6 e6
    go_wp2_with fail
    refine wp_region_seq (fun _ => True) [0, 1, 2, 3, 4, 5] [0, 1, 2, 3, 4, 5, 6, 7] (by kernel_rfl) (by kernel_rfl) (by rfl) (by kernel_rfl) (fun _ _ _ _ _ h => h) (trivial) ?_
    repeat
      apply seq_read (by rfl)
      · (simp only [List.getElem?_toArray, List.getElem?_cons_succ, List.getElem?_cons_zero]; rfl)
      · rfl
      · (intro w' hSw; (first | subst hSw | (try dsimp only at hSw)); go_simp; (try go_bits); (try with_reducible rfl))
      simp only [Act.put, List.setIfInBounds_toArray, List.set_cons_zero, List.set_cons_succ]
    apply seq_act (by rfl)
    · (simp only [List.getElem?_toArray, List.getElem?_cons_succ, List.getElem?_cons_zero]; rfl)
    · rfl
    refine wp_k (fun K hK => ?_)
    go_simp
    refine (k1).mono ?_
    rintro e w' ⟨rfl, rfl⟩
    refine hK _ _ ⟨trivial, ?_⟩
    clear hK K
    try simp only [Act.put, List.setIfInBounds_toArray, List.set_cons_zero, List.set_cons_succ]
    apply seq_act (by rfl)
    · (simp only [List.getElem?_toArray, List.getElem?_cons_succ, List.getElem?_cons_zero]; rfl)
    · rfl
    refine wp_k (fun K hK => ?_)
    go_simp
    refine (k2).mono ?_
    rintro e w' ⟨rfl, rfl⟩
    refine hK _ _ ⟨trivial, ?_⟩
    clear hK K
    try simp only [Act.put, List.setIfInBounds_toArray, List.set_cons_zero, List.set_cons_succ]
    refine seq_nil ?_
    clear k1 k2
    generalize hW1 : W0.drew.setCell ⟨c, 6, none⟩ (.int .i64 t.reads) = W1 at *
    clear hW1
    have c1 : W1.cell? ⟨b, 1, none⟩ = some (.map (some ms)) := (ev1.cell (heap_lt h.cell) (fun hf => hf)).trans (blk_cell h.cell 1)
    obtain ⟨W2, cnt, hrg, hrng, hg2, hsz2⟩ := (h.slots.map.same (ev1.block ms h.slots.map.lt (fun hf => hf))).range (P := Try.prog) Try.underlying64
    have ev2 : Evo (fun _ => False) w W2 := ev1.grown hg2 (fun _ hf => by cases hf)
    have hR2 := hR1.apart ((Evo.refl (fun _ => False) W1).grown hg2 (fun _ hf => by cases hf)) (fun _ _ hf => hf)
    obtain ⟨r, hr⟩ : ∃ r, W1.heap.size = r := ⟨_, rfl⟩
    rw [hr] at hrg hrng
    have hFr : ¬ F0 r := fun hf => by have := (show Rep W1 c _ F0 from hR1); obtain ⟨⟨_, _, _, _, _, _, _, _, hx⟩, _⟩ := this; have := hx.lt r hf; omega
    have hrw : w.heap.size ≤ r := by rw [← hr]; exact ev1.size
    have Hrg := Lib.hid hrg
    have Hr := Lib.hid hr
    clear hrg hr hg2 hsz2 hR0 hR1 ev0
    go_wp2_with (refine wpList_run rfl (run_op_range rfl Hrg.out) ?_)
    go_frame
    go_loopg [4, 5, 6] cnt (fun g p q x wx => ∃ (left : Value → Bool) (S' : Int → Int → List Int) (F' : Nat → Prop), Ranging wx ms r PlaceKey M left g ∧ Rep wx c { t.bare with reads := t.reads, slots := S' } F' ∧ (∀ k, F' k → w.heap.size ≤ k) ∧ ¬ F' r ∧ Evo (fun _ => False) w wx ∧
      ∀ a s, S' a s = if left (plk a s) then zeros272 else t.slots a s)
    case atStart =>
      refine ⟨_, _, F0, hrng, hR2, hF0, hFr, ev2, fun a s => ?_⟩
      cases hM : M (plk a s) with
      | none => exact (h.slots.none_ a s hM).symm
      | some v => rfl
    case round =>
      obtain ⟨left, S', F', hrg, hR, hF', hFr', hev, hS⟩ := hrel
      rcases hrg.next (P := Try.prog) 0 with ⟨hall, hn⟩ | ⟨key, vv, w1, cnt1, ⟨a, s, rfl⟩, hlk, hMk, hn, hrg1, hlt, hgw1, hsw1, hent⟩
      · have Hn := Lib.hid hn
        have Hall := Lib.hid hall
        clear hn hall
        have eS : S' = t.slots := by funext a s; rw [hS, Hall.out]; rfl
        subst eS
        have c5 : wr.cell? ⟨b, 5, none⟩ = some (.map (some ml)) := (hev.cell (heap_lt h.cell) (fun hf => hf)).trans (blk_cell h.cell 5)
        obtain ⟨W3, cntl, hrgl, hrngl, hgl, hszl⟩ := (h.lies.map.same (hev.block ml h.lies.map.lt (fun hf => hf))).range (P := Try.prog) Try.underlying65
        have ev3 : Evo (fun _ => False) w W3 := hev.grown hgl (fun _ hf => by cases hf)
        have hR3 := hR.apart ((Evo.refl (fun _ => False) wr).grown hgl (fun _ hf => by cases hf)) (fun _ _ hf => hf)
        obtain ⟨q, hq⟩ : ∃ q, wr.heap.size = q := ⟨_, rfl⟩
        rw [hq] at hrgl hrngl
        have hFq : ¬ F' q := fun hf => by obtain ⟨⟨_, _, _, _, _, _, _, _, hx⟩, _⟩ := hR; have := hx.lt q hf; omega
        have hqw : w.heap.size ≤ q := by rw [← hq]; exact hev.size
        have Hrgl := Lib.hid hrgl
        clear hrgl hq hgl hszl hR hrg hS hFr' Hrg Hr
        go_wp2_with (first | (refine wpList_run rfl (run_op_next rfl Hn.out) ?_) | (refine wpList_run rfl (run_op_range rfl Hrgl.out) ?_))
        try go_frame
        go_loopg [7, 8] cntl (fun g p q' wx => ∃ (left : Value → Bool) (l' : Int → Option (List Int)) (F' : Nat → Prop), Ranging wx ml q (IntKey .i64) L left g ∧ Rep wx c { t.bare with reads := t.reads, slots := t.slots, lies := l' } F' ∧ (∀ k, F' k → w.heap.size ≤ k) ∧ ¬ F' q ∧ Evo (fun _ => False) w wx ∧
          ∀ n, l' n = if left (.int .i64 n) then none else t.lies n)
        case atStart =>
          refine ⟨_, _, F', hrngl, hR3, hF', hFq, ev3, fun n => ?_⟩
          cases hn : t.lies n with
          | none => simp [WS.bare]
          | some x =>
            obtain ⟨v, hv, _⟩ := h.lies.some_ n x hn
            rw [hv]
            rfl
        case round =>
          obtain ⟨left, l', F', hrg, hR, hF', hFr', hev, hS⟩ := hrel
          rcases hrg.next (P := Try.prog) 0 with ⟨hall, hn⟩ | ⟨key, vv, w1, cnt1, ⟨n, rfl⟩, hlk, hMk, hn, hrg1, hlt, hgw1, hsw1, hent⟩
          · have Hn := Lib.hid hn
            have eS : l' = t.lies := by funext n; rw [hS, hall]; rfl
            subst eS
            clear hn hall
            have c2 : wr.cell? ⟨b, 2, none⟩ = some s0 := (hev.cell (heap_lt h.cell) (fun hf => hf)).trans (blk_cell h.cell 2)
            have c3 : wr.cell? ⟨b, 3, none⟩ = some s1 := (hev.cell (heap_lt h.cell) (fun hf => hf)).trans (blk_cell h.cell 3)
            obtain ⟨A0, d0, rfl, _⟩ := ownsRow_slice h.seal0.1
            obtain ⟨A1, d1, rfl, _⟩ := ownsRow_slice h.seal1.1
            obtain ⟨n0, hn0⟩ : ∃ n, (t.seals 0).length = n := ⟨_, rfl⟩
            obtain ⟨n1, hn1⟩ : ∃ n, (t.seals 1).length = n := ⟨_, rfl⟩
            rw [hn0] at c2
            rw [hn1] at c3
            have S0 := h.seal0.src
            have S1 := h.seal1.src
            rw [hn0] at S0
            rw [hn1] at S1
            have Hn0 := Lib.hid hn0
            have Hn1 := Lib.hid hn1
            clear hn0 hn1
            clear hS hFr' hrg
            go_wp2_with (first | (refine wpList_run rfl (run_op_next rfl Hn.out) ?_))
            go_step3
            go_wp2
            go_loopg [83, 9, 10] 2 (fun g j p q' wx => ∃ k : Nat, k ≤ 2 ∧ g = 2 - k ∧ j = .int .i64 k ∧ ∃ (z : Int → List Int) (F' : Nat → Prop), Rep wx c { t.bare with reads := t.reads, slots := t.slots, lies := t.lies, seals := z } F' ∧ (∀ k, F' k → w.heap.size ≤ k) ∧ Evo (fun _ => False) w wx ∧
              SealsTo t z k)
            case atStart => exact ⟨0, by omega, rfl, rfl, _, F', hR, hF', hev, fun i => by simp only [WS.bare]; by_cases h0 : i = 0 <;> by_cases h1 : i = 1 <;> simp [h0, h1]⟩
            case round =>
              obtain ⟨k, hk, rfl, rfl, z, F', hR, hF', hev, hz'⟩ := hrel
              have hcF : True := trivial
              obtain rfl | rfl | rfl : k = 0 ∨ k = 1 ∨ k = 2 := by omega
              · -- round 0
                have cF := hcF
                by_cases hz : n0 = 0
                · subst hz
                  have hnil : t.seals 0 = [] := List.length_eq_zero_iff.1 Hn0.out
                  have HN := Lib.hid hnil
                  clear hnil
                  go_wp2
                  go_roundg (2 - 1)
                  case measure => omega
                  case rel => exact ⟨1, by omega, rfl, by first | rfl | simp, z, F', hR, hF', hev, seals_step0 hz' HN.out⟩
                · have hzi : ¬ (n0 : Int) = 0 := by omega
                  have hzi0 : (0 : Int) < (n0 : Int) := by omega
                  have hzb : ((n0 : Int) == 0) = false := by simpa using hzi
                  obtain ⟨A9, c9, w2, hr9, ho9, hg9⟩ := run_append_fresh (P := Try.prog) wr.drew 22 22 5 i5 _ 1 1 Try.underlying22 hi5 hz5 hs5 hb5 rfl (by omega) _ n0 _ (S0.evo hev.drew (fun _ _ _ hf => hf)) (bys_one _) (by have := h.ok0.1; have := Hn0.out; simp only [maxLen]; omega) (by have := h.ok0.1; have := Hn0.out; omega)
                  have e2 : Evo (fun _ => False) wr w2 := (Evo.refl _ wr).drew.grown hg9 (fun _ hf => by cases hf)
                  have hR2 := hR.apart e2 (fun _ _ hf => hf)
                  obtain ⟨⟨mc, mlc, s0c, s1c, tvc, Mc, Lc, bsc, hG⟩, hrdc⟩ := hR2
                  have hl2 : ∀ k, (F' k ∨ (wr.heap.size ≤ k ∧ k < w2.heap.size)) → k < w2.heap.size := fun k hk => by
                    rcases hk with hk | hk
                    · exact hG.lt k hk
                    · exact hk.2
                  have hG' := hG.mono (F' := fun k => F' k ∨ (wr.heap.size ≤ k ∧ k < w2.heap.size)) (fun k hk => .inl hk) hl2
                  have hown9 : Own w2 (fun k => F' k ∨ (wr.heap.size ≤ k ∧ k < w2.heap.size)) 5 (.slice A9 n0 c9) (t.seals 0) := ⟨by rw [Hn0.out]; exact ownsRow_base ho9 (fun g _ => Nat.zero_le g), fun g hg => .inr (by have := ho9.lt g hg; exact ⟨this.1, this.2⟩)⟩
                  obtain ⟨s0', s1', hG2⟩ := hG'.setSeal 0 (by omega) hown9 h.ok0
                  have hR3 : Rep (w2.setCell ⟨c, 2, none⟩ (.slice A9 n0 c9)) c (WS.setSeal { t.bare with reads := t.reads, slots := t.slots, lies := t.lies, seals := z } 0 (t.seals 0)) (fun k => F' k ∨ (wr.heap.size ≤ k ∧ k < w2.heap.size)) := ⟨⟨_, _, _, _, _, _, _, _, hG2⟩, hrdc⟩
                  have d9 : w2.cell? ⟨c, 2, none⟩ = some s0c := blk_cell hG.cell 2
                  have f9 : w2.frozen? ⟨c, 2, none⟩ = false := blk_frozen hG.cell 2
                  have hcw2 : w.heap.size ≤ c := hcw
                  have evf : Evo (fun _ => False) w (w2.setCell ⟨c, 2, none⟩ (.slice A9 n0 c9)) := (hev.two e2).setCell (p := ⟨c, 2, none⟩) (.inr hcw) _
                  have hwr := hev.size
                  have HR3 := Lib.hid hR3
                  have Hr9 := Lib.hid hr9
                  clear hr9 hG hG' hG2 hown9 ho9 hg9 hl2 hR3 cF
                  go_wp2
                  refine wp_region_seq_drop (fun w' => True) [0, 1, 2, 4, 5, 6] [0, 1, 2, 4, 5, 3, 6] 7 (by kernel_rfl) rfl (by kernel_rfl) (by kernel_rfl) (by kernel_rfl) rfl (by kernel_rfl) (fun _ _ _ _ _ h => h) (trivial) ?_
                  dsimp only [List.dropLast]
                  repeat
                    apply seq_read (by rfl)
                    · (simp only [List.getElem?_toArray, List.getElem?_cons_succ, List.getElem?_cons_zero]; rfl)
                    · rfl
                    · (intro w' hSw; (first | subst hSw | (try dsimp only at hSw)); go_simp; (try go_bits); (try with_reducible rfl))
                    simp only [Act.put, List.setIfInBounds_toArray, List.set_cons_zero, List.set_cons_succ]
                  apply seq_act (by rfl)
                  · (simp only [List.getElem?_toArray, List.getElem?_cons_succ, List.getElem?_cons_zero]; rfl)
                  · rfl
                  refine wp_val (run_op_append rfl Hr9.out) ⟨trivial, ?_⟩
                  try simp only [Act.put, List.setIfInBounds_toArray, List.set_cons_zero, List.set_cons_succ]
                  repeat
                    apply seq_read (by rfl)
                    · (simp only [List.getElem?_toArray, List.getElem?_cons_succ, List.getElem?_cons_zero]; rfl)
                    · rfl
                    · (intro w' hSw; (first | subst hSw | (try dsimp only at hSw)); go_simp; (try go_bits); (try with_reducible rfl))
                    simp only [Act.put, List.setIfInBounds_toArray, List.set_cons_zero, List.set_cons_succ]
                  refine seq_nil ?_
                  apply last_act
                  · (simp only [List.getElem?_toArray, List.getElem?_cons_succ, List.getElem?_cons_zero]; rfl)
                  · rfl
                  refine wp_k (fun K hK => ?_)
                  go_simp
                  refine hK _ _ ?_
                  clear hK K
                  try simp only [Act.put, List.setIfInBounds_toArray, List.set_cons_zero, List.set_cons_succ]
                  go_wp2
                  go_roundg (2 - 1)
                  case measure => omega
                  case rel =>
                    refine ⟨1, by omega, rfl, by first | rfl | simp, _, _, HR3.out, ?_, evf, seals_set0 hz'⟩
                    rintro k (hk | hk)
                    · exact hF' k hk
                    · omega
              · -- round 1
                have cF := hcF
                by_cases hz : n1 = 0
                · subst hz
                  have hnil : t.seals 1 = [] := List.length_eq_zero_iff.1 Hn1.out
                  have HN := Lib.hid hnil
                  clear hnil
                  go_wp2
                  go_roundg (2 - 2)
                  case measure => omega
                  case rel => exact ⟨2, by omega, rfl, by first | rfl | simp, z, F', hR, hF', hev, seals_step1 hz' HN.out⟩
                · have hzi : ¬ (n1 : Int) = 0 := by omega
                  have hzi0 : (0 : Int) < (n1 : Int) := by omega
                  have hzb : ((n1 : Int) == 0) = false := by simpa using hzi
                  obtain ⟨A9, c9, w2, hr9, ho9, hg9⟩ := run_append_fresh (P := Try.prog) wr.drew 22 22 5 i5 _ 1 1 Try.underlying22 hi5 hz5 hs5 hb5 rfl (by omega) _ n1 _ (S1.evo hev.drew (fun _ _ _ hf => hf)) (bys_one _) (by have := h.ok1.1; have := Hn1.out; simp only [maxLen]; omega) (by have := h.ok1.1; have := Hn1.out; omega)
                  have e2 : Evo (fun _ => False) wr w2 := (Evo.refl _ wr).drew.grown hg9 (fun _ hf => by cases hf)
                  have hR2 := hR.apart e2 (fun _ _ hf => hf)
                  obtain ⟨⟨mc, mlc, s0c, s1c, tvc, Mc, Lc, bsc, hG⟩, hrdc⟩ := hR2
                  have hl2 : ∀ k, (F' k ∨ (wr.heap.size ≤ k ∧ k < w2.heap.size)) → k < w2.heap.size := fun k hk => by
                    rcases hk with hk | hk
                    · exact hG.lt k hk
                    · exact hk.2
                  have hG' := hG.mono (F' := fun k => F' k ∨ (wr.heap.size ≤ k ∧ k < w2.heap.size)) (fun k hk => .inl hk) hl2
                  have hown9 : Own w2 (fun k => F' k ∨ (wr.heap.size ≤ k ∧ k < w2.heap.size)) 5 (.slice A9 n1 c9) (t.seals 1) := ⟨by rw [Hn1.out]; exact ownsRow_base ho9 (fun g _ => Nat.zero_le g), fun g hg => .inr (by have := ho9.lt g hg; exact ⟨this.1, this.2⟩)⟩
                  obtain ⟨s0', s1', hG2⟩ := hG'.setSeal 1 (by omega) hown9 h.ok1
                  have hR3 : Rep (w2.setCell ⟨c, 3, none⟩ (.slice A9 n1 c9)) c (WS.setSeal { t.bare with reads := t.reads, slots := t.slots, lies := t.lies, seals := z } 1 (t.seals 1)) (fun k => F' k ∨ (wr.heap.size ≤ k ∧ k < w2.heap.size)) := ⟨⟨_, _, _, _, _, _, _, _, hG2⟩, hrdc⟩
                  have d9 : w2.cell? ⟨c, 3, none⟩ = some s1c := blk_cell hG.cell 3
                  have f9 : w2.frozen? ⟨c, 3, none⟩ = false := blk_frozen hG.cell 3
                  have hcw2 : w.heap.size ≤ c := hcw
                  have evf : Evo (fun _ => False) w (w2.setCell ⟨c, 3, none⟩ (.slice A9 n1 c9)) := (hev.two e2).setCell (p := ⟨c, 3, none⟩) (.inr hcw) _
                  have hwr := hev.size
                  have HR3 := Lib.hid hR3
                  have Hr9 := Lib.hid hr9
                  clear hr9 hG hG' hG2 hown9 ho9 hg9 hl2 hR3 cF
                  go_wp2
                  refine wp_region_seq_drop (fun w' => True) [0, 1, 2, 4, 5, 6] [0, 1, 2, 4, 5, 3, 6] 7 (by kernel_rfl) rfl (by kernel_rfl) (by kernel_rfl) (by kernel_rfl) rfl (by kernel_rfl) (fun _ _ _ _ _ h => h) (trivial) ?_
                  dsimp only [List.dropLast]
                  repeat
                    apply seq_read (by rfl)
                    · (simp only [List.getElem?_toArray, List.getElem?_cons_succ, List.getElem?_cons_zero]; rfl)
                    · rfl
                    · (intro w' hSw; (first | subst hSw | (try dsimp only at hSw)); go_simp; (try go_bits); (try with_reducible rfl))
                    simp only [Act.put, List.setIfInBounds_toArray, List.set_cons_zero, List.set_cons_succ]
                  apply seq_act (by rfl)
                  · (simp only [List.getElem?_toArray, List.getElem?_cons_succ, List.getElem?_cons_zero]; rfl)
                  · rfl
                  refine wp_val (run_op_append rfl Hr9.out) ⟨trivial, ?_⟩
                  try simp only [Act.put, List.setIfInBounds_toArray, List.set_cons_zero, List.set_cons_succ]
                  repeat
                    apply seq_read (by rfl)
                    · (simp only [List.getElem?_toArray, List.getElem?_cons_succ, List.getElem?_cons_zero]; rfl)
                    · rfl
                    · (intro w' hSw; (first | subst hSw | (try dsimp only at hSw)); go_simp; (try go_bits); (try with_reducible rfl))
                    simp only [Act.put, List.setIfInBounds_toArray, List.set_cons_zero, List.set_cons_succ]
                  refine seq_nil ?_
                  apply last_act
                  · (simp only [List.getElem?_toArray, List.getElem?_cons_succ, List.getElem?_cons_zero]; rfl)
                  · rfl
                  refine wp_k (fun K hK => ?_)
                  go_simp
                  refine hK _ _ ?_
                  clear hK K
                  try simp only [Act.put, List.setIfInBounds_toArray, List.set_cons_zero, List.set_cons_succ]
                  go_wp2
                  go_roundg (2 - 2)
                  case measure => omega
                  case rel =>
                    refine ⟨2, by omega, rfl, by first | rfl | simp, _, _, HR3.out, ?_, evf, seals_set1 hz'⟩
                    rintro k (hk | hk)
                    · exact hF' k hk
                    · omega
              · have eZ : z = t.seals := by funext i; rw [hz' i]; simp
                subst eZ
                clear hz'
                go_wp2
                go_ret
                exact ⟨c, F', rfl, hR, hev, hF'⟩
          · obtain ⟨x, hx⟩ : ∃ x, t.lies n = some x := by
              cases hn0 : t.lies n with
              | some x => exact ⟨x, rfl⟩
              | none => have := h.lies.none_ n hn0; rw [this] at hMk; cases hMk
            obtain ⟨v', e', hown, hokx⟩ := h.lies.some_ n x hx
            rw [hMk] at e'
            cases e'
            have er1 : Evo (fun k => k = q) wr w1 := (Evo.refl (fun k => k = q) wr).grown hgw1 (fun k hk => .inl (by cases hk; rfl))
            have ev1' : Evo (fun _ => False) w w1 := hev.trans er1 (fun x hx => .inr (by have : x = q := hx; omega))
            have hR1 := hR.apart er1 (fun k hk e => hFr' (by have e : k = q := e; rw [← e]; exact hk))
            have hq1 := hrg1.lt
            have hlie := R_lie hR1 n vv x (hown.src.evo ev1' (fun _ _ _ hf => hf)) hokx
            obtain ⟨Av, cv, rfl, _⟩ := ownsRow_slice hown.1
            have hml : ml < w.heap.size := h.lt ml h.fml
            have HX := Lib.hid hx
            have Hn := Lib.hid hn
            have Hent := Lib.hid hent
            clear hn hent hx hMk hown hsw1
            go_wp2_with (first | (refine wpList_run rfl (run_op_next rfl Hn.out) ?_) | (refine wpList_run rfl (run_op_entry rfl Hent.out) ?_))
            refine hlie.mono ?_
            rintro e w2 ⟨F2, rfl, hgo⟩
            go_wp2
            go_roundg cnt1
            case measure => exact hlt
            case rel =>
              refine ⟨_, _, F2, hrg1.evo hgo.evo (fun hf => by have := hF' _ hf; omega) hFr', hgo.rep, ?_, ?_, ev1'.trans hgo.evo (fun k hk => .inr (hF' k hk)), fun m => ?_⟩
              · intro k hk
                rcases hgo.new k hk with hk | hk
                · exact hF' k hk
                · have := ev1'.size; omega
              · intro hf
                rcases hgo.new _ hf with hk | hk
                · exact hFr' hk
                · omega
              · by_cases e : m = n
                · subst e
                  simp [WS.lie, HX.out]
                · simp [WS.lie, e, hS]
      · obtain ⟨g0, rfl, hg0, hgc⟩ := h.slots.some_ a s vv hMk
        have er1 : Evo (fun k => k = r) wr w1 := (Evo.refl (fun k => k = r) wr).grown hgw1 (fun k hk => .inl (by cases hk; rfl))
        have ev1' : Evo (fun _ => False) w w1 := hev.trans er1 (fun x hx => .inr (by have : x = r := hx; omega))
        have hR1 := hR.apart er1 (fun k hk e => hFr' (by have e : k = r := e; rw [← e]; exact hk))
        have hlt1 : ∀ k, F' k → k < w1.heap.size := fun k hk => by obtain ⟨⟨_, _, _, _, _, _, _, _, hx⟩, _⟩ := hR1; exact hx.lt k hk
        have hr1 := hrg1.lt
        obtain ⟨W4, hW4⟩ : ∃ W, W = (w1.alloc (.cells #[.int .i64 a, .int .i64 s] 95)).alloc (.cells (bys (t.slots a s)).toArray 96) := ⟨_, rfl⟩
        obtain ⟨W3, hW3⟩ : ∃ W, W = (w1.alloc (.cells #[.int .i64 a, .int .i64 s] 95)).alloc (.cells Z96 96) := ⟨_, rfl⟩
        have e14 : Evo (fun _ => False) w1 W4 := by rw [hW4]; exact ((Evo.refl _ w1).alloc _).alloc _
        have z4 : W4.heap.size = w1.heap.size + 1 + 1 := by rw [hW4]; simp
        have hld := load96 (w1.alloc (.cells #[.int .i64 a, .int .i64 s] 95)) g0 (t.slots a s) ((((ev1'.alloc (.cells #[.int .i64 a, .int .i64 s] 95))).block g0 (h.lt g0 hg0) (fun hf => hf)).trans hgc) (h.slots.len a s)
        have hal := run_alloc96 (w1.alloc (.cells #[.int .i64 a, .int .i64 s] 95))
        have hst := store96 (w1.alloc (.cells #[.int .i64 a, .int .i64 s] 95)) zeros272 (t.slots a s) zeros_len (h.slots.len a s)
        rw [← bys_zeros, ← hW4] at hst
        rw [← hW3] at hst hal
        rw [World.size_alloc] at hst hal
        have p0 : W4.cell? ⟨w1.heap.size, 0, none⟩ = some (.int .i64 a) := by rw [hW4, World.cell?_alloc_lt _ _ _ (by simp)]; exact blk_cell (heap_alloc_new _ _) 0
        have p1 : W4.cell? ⟨w1.heap.size, 1, none⟩ = some (.int .i64 s) := by rw [hW4, World.cell?_alloc_lt _ _ _ (by simp)]; exact blk_cell (heap_alloc_new _ _) 1
        have hgn : W4.heap[w1.heap.size + 1]? = some (.cells (bys (t.slots a s)).toArray 96 (0, 0)) := by
          have := heap_alloc_new (w1.alloc (.cells #[.int .i64 a, .int .i64 s] 95)) (.cells (bys (t.slots a s)).toArray 96)
          rw [World.size_alloc] at this
          rw [hW4]
          exact this
        have hR4 : Rep W4.drew c { t.bare with reads := t.reads, slots := S' } F' := hR1.apart e14.drew (fun _ _ hf => hf)
        obtain ⟨⟨mc, mlc, s0c, s1c, tvc, Mc, Lc, bsc, hG⟩, hrdc⟩ := hR4
        obtain ⟨w5, hup, hG5, ev5⟩ := hG.put a s (w1.heap.size + 1) (t.slots a s) hgn (fun hf => by have := hlt1 _ hf; omega) (h.slots.len a s) (h.slots.byt a s)
        have cc : W4.drew.cell? ⟨c, 1, none⟩ = some (.map (some mc)) := blk_cell hG.cell 1
        have hmc := hF' mc hG.fms
        have hmr : mc ≠ r := fun e => hFr' (e ▸ hG.fms)
        have evf : Evo (fun _ => False) w w5 := ((ev1'.two e14).drew).trans ev5 (fun x hx => .inr (by have : x = mc := hx; omega))
        have hms : ms < w.heap.size := h.lt ms h.fms
        have hrg5 : Ranging w5 ms r PlaceKey M _ cnt1 := (hrg1.evo e14.drew (fun hf => hf) (fun hf => hf)).evo ev5 (fun e => by have e : ms = mc := e; omega) (fun e => hmr (by have e : r = mc := e; exact e.symm))
        have hR5 : Rep w5 c (WS.setSlot { t.bare with reads := t.reads, slots := S' } a s (t.slots a s)) (fun k => F' k ∨ k = w1.heap.size + 1) := ⟨⟨_, _, _, _, _, _, _, _, hG5⟩, hrdc⟩
        obtain ⟨V4, hV4⟩ : ∃ V, (bys (t.slots a s)).toArray = V := ⟨_, rfl⟩
        rw [hV4] at hld hst
        simp only [plk] at hn hent hup
        have HV4 := Lib.hid hV4
        have Hld := Lib.hid hld
        have Hal := Lib.hid hal
        have Hst := Lib.hid hst
        have Hup := Lib.hid hup
        have Hn := Lib.hid hn
        have Hent := Lib.hid hent
        have Hsz : Hid (w1.heap.size = wr.heap.size) := hsw1
        have HW4 := Lib.hid hW4
        have HW3 := Lib.hid hW3
        have Hz4 := Lib.hid z4
        clear hV4 hld hal hst hup hn hent hW4 hW3 z4 hgn hsw1 hMk hgc hG hG5 hlt1
        go_wp2_with (first | (refine wpList_run rfl (run_op_next rfl Hn.out) ?_) | (refine wpList_run rfl (run_op_entry rfl Hent.out) ?_) | (refine wpList_run rfl (run_op_load rfl Hld.out) ?_) | (refine wpList_run rfl (run_op_alloc rfl Hal.out) ?_) | (refine wpList_void rfl (run_op_store rfl Hst.out) ?_))
        refine wp_region_seq_drop (fun w' => w'.cell? ⟨c, 1, none⟩ = some (.map (some mc)) ∧ w'.cell? ⟨w1.heap.size, 0, none⟩ = some (.int .i64 a) ∧ w'.cell? ⟨w1.heap.size, 1, none⟩ = some (.int .i64 s)) [0, 1, 2, 3, 4] [0, 1, 2, 3, 4] 5 (by kernel_rfl) rfl (by kernel_rfl) (by kernel_rfl) (by kernel_rfl) rfl (by kernel_rfl) (fun _ _ _ _ _ h => h) (⟨cc, p0, p1⟩) ?_
        dsimp only [List.dropLast]
        repeat
          apply seq_read (by rfl)
          · (simp only [List.getElem?_toArray, List.getElem?_cons_succ, List.getElem?_cons_zero]; rfl)
          · rfl
          · (intro w' hSw; (first | subst hSw | (try dsimp only at hSw)); go_simp; (try go_bits); (try with_reducible rfl))
          simp only [Act.put, List.setIfInBounds_toArray, List.set_cons_zero, List.set_cons_succ]
        refine seq_nil ?_
        apply last_act
        · (simp only [List.getElem?_toArray, List.getElem?_cons_succ, List.getElem?_cons_zero]; rfl)
        · rfl
        refine wp_void (run_op_mapUpdate rfl Hup.out) ?_
        try simp only [Act.put, List.setIfInBounds_toArray, List.set_cons_zero, List.set_cons_succ]
        go_wp2
        go_roundg cnt1
        case measure => exact hlt
        case rel =>
          refine ⟨_, _, _, hrg5, hR5, ?_, ?_, evf, fun a' s' => ?_⟩
          · rintro k (hk | rfl)
            · exact hF' k hk
            · have := ev1'.size; omega
          · rintro (hk | hk)
            · exact hFr' hk
            · omega
          · by_cases e : a' = a ∧ s' = s
            · obtain ⟨rfl, rfl⟩ := e
              simp
            · have : plk a' s' ≠ plk a s := fun h => e (plk_inj h)
              simp [e, this, hS]
end

end Go.Proofs.Ytnndkameadlkdaa
