/- The walk of the reference's Step. -/
import Derived.Test.YtnndkameadlkdaaRfJ
namespace Go.Proofs.Ytnndkameadlkdaa
open Go.RowKit

theorem Try.info91 : (Try.prog.info? 91).map (fun i => (i.zero, i.size, i.bytes)) = some (some (.agg #[.int .i64 0, .slice none 0 0]), 2, 32) := by kernel_rfl

/-- The result's cell behind a call. -/
theorem fin_put {N : Nat → Prop} {w1 : World} {v' : Value} {t' : WS} {n g : Nat} (h : RefT N w1 v' t' n) (hg : w1.heap[g]? = some (.cells z56 56 (0, 0))) :
    ∃ C', v' = .agg C' ∧ C'.size = 10 ∧ C'.all (·.oneCell') = true ∧ ∃ w3, (Instr.storeAt 56 (.pointer (some ⟨g, 0, none⟩)) (.agg C')).run Try.prog (w1.alloc (.cells C' 56)) = .ok () w3 ∧ (∀ i, w3.cell? ⟨g, i, none⟩ = C'[i]?) ∧ RefT N w3 v' t' n ∧
      Evo (fun k => k = g) (w1.alloc (.cells C' 56)) w3 ∧ (w1.alloc (.cells C' 56)).heap[g]? = some (.cells z56 56 (0, 0)) := by
  obtain ⟨S, E, L, T, cs, ce, cl, ct, sl, ll, rfl, hD, hll⟩ := h
  refine ⟨_, rfl, rfl, tcells_one .., ?_⟩
  have hg2 : (w1.alloc (.cells (tcells t' (.slice S 8 cs) (.slice E 2 ce) (.slice L ll.length cl) (.slice T t'.trace.length ct)) 56)).heap[g]? = some (.cells z56 56 (0, 0)) := (Below.heap_alloc _ _ _ (heap_lt hg)).trans hg
  obtain ⟨w3, hst, hg3, he⟩ := store56 _ g _ (tcells t' (.slice S 8 cs) (.slice E 2 ce) (.slice L ll.length cl) (.slice T t'.trace.length ct)) hg2 rfl rfl (tcells_one ..)
  refine ⟨w3, hst, blk_cell hg3, ⟨S, E, L, T, cs, ce, cl, ct, sl, ll, rfl, (hD.evo0 ((Evo.refl _ w1).alloc _)).keepF he ?_, hll⟩, he, hg2⟩
  rintro k rfl
  exact ⟨_, hg2, z56_u8⟩

theorem RefD.scal {N : Nat → Prop} {w : World} {t t' : WS} {S E L T : Option Addr} {cs ce cl ct : Nat} {sl : List (List Int)} {ll : List (Int × List Int)} (h : RefD N w t S E L T cs ce cl ct sl ll) (e1 : t'.slots = t.slots) (e2 : t'.seals = t.seals) (e3 : t'.lies = t.lies) (e4 : t'.trace = t.trace) (e5 : t'.blocks = t.blocks) : RefD N w t' S E L T cs ce cl ct sl ll :=
  ⟨h.slots, h.slen, by rw [e1]; exact h.sat, by rw [e2]; exact h.seals, h.lies, by rw [e3]; exact h.last, by rw [e4]; exact h.trace, by rw [e5]; exact h.blocks, h.kS, h.kE, h.kL, h.kT⟩
theorem lieCells_snoc (ls : List (Int × List Int)) (us : List Value) (h : us.length = ls.length) (x : Int × List Int) (v : Value) : lieCells (ls ++ [x]) (us ++ [v]) = lieCells ls us ++ [.int .i64 x.1, v] := by
  unfold lieCells
  rw [List.zip_append h.symm]
  simp
theorem lie_one {N : Nat → Prop} {w : World} {ls : List (Int × List Int)} {us : List Value} (h3 : ∀ (i : Nat) (x : Int × List Int) (u : Value), ls[i]? = some x → us[i]? = some u → SrcN N w 1 u x.2.length (bys x.2)) : ∀ u ∈ lieCells ls us, u.oneCell' = true := by
  intro u hu
  simp only [lieCells, List.mem_flatMap] at hu
  obtain ⟨⟨x, y⟩, hxy, hu⟩ := hu
  obtain ⟨i, hi, hxi⟩ := List.mem_iff_getElem.1 hxy
  have hi' : i < ls.length := by simp at hi; omega
  have hib : i < us.length := by simp at hi; omega
  simp only [List.getElem_zip, Prod.mk.injEq] at hxi
  obtain ⟨A, c, e, _⟩ := (h3 i x y (by rw [← hxi.1]; exact List.getElem?_eq_getElem hi') (by rw [← hxi.2]; exact List.getElem?_eq_getElem hib)).1
  simp only [List.mem_cons, List.not_mem_nil, or_false] at hu
  rcases hu with rfl | rfl
  · rfl
  · rw [e]; rfl

theorem RefT.more {N : Nat → Prop} {w : World} {v : Value} {t : WS} {n : Nat} (h : RefT N w v t n) : RefT N w v t (n + 1) := by
  obtain ⟨S, E, L, T, cs, ce, cl, ct, sl, ll, e, hD, hll⟩ := h
  exact ⟨S, E, L, T, cs, ce, cl, ct, sl, ll, e, hD, by omega⟩

set_option maxRecDepth 100000 in
set_option maxHeartbeats 4000000 in
theorem rstep_walk (N : Nat → Prop) (w : World) (hN : ∀ k, N k → k < w.heap.size) (v : Value) (t : WS) (n : Nat) (h : RefT N w v t n) (hn : n ≤ 900) (hb : Bd t) (hc0 : 0 ≤ t.counter) (hc1 : t.counter ≤ 18446744073709551615) (d : DoD) (hs : SrcN N w 1 d.bv d.b.length (bys d.b)) (hl : d.b.length ≤ 100000) :
    Calls Try.prog 29 #[v, .agg d.cells.toArray] w fun e w' => ∃ v' B c, e = .returned (.tuple #[v', .slice B (t.didL d).length c, .bool (t.didB d)]) ∧ RefT N w' v' (t.did d) (n + 1) ∧ SrcN N w' 1 (.slice B (t.didL d).length c) (t.didL d).length (bys (t.didL d)) ∧ Evo (fun _ => False) w w' := by
  obtain ⟨kind, at_, slot, m, bv, b⟩ := d
  dsimp only at hs hl
  unfold DoD.cells
  dsimp only
  obtain ⟨BV, cb, rfl, hcb⟩ : ∃ A c, bv = .slice A b.length c ∧ b.length ≤ c := by obtain ⟨A, c, e, h, _⟩ := hs.1; exact ⟨A, c, e, h⟩
  obtain ⟨S, E, L, T, cs, ce, cl, ct, sl, ll, rfl, hD, hll⟩ := h
  have hev : ∀ k : Int, Evo (fun _ => False) w (((w.alloc (.cells #[.int .i64 t.blocks, .slice S 8 cs, .slice E 2 ce, .int .u64 t.counter, .slice L ll.length cl, .int .i64 t.reads, .bool t.armed, .int .i64 t.power, .bool t.dead, .slice T t.trace.length ct] 56)).alloc (.cells #[.int .i64 k, .int .i64 at_, .int .i64 slot, .int .i64 m, .slice BV b.length cb] 44)).alloc (.cells #[.int .i64 0, .slice none 0 0, .slice none 0 0, .int .u64 0, .slice none 0 0, .int .i64 0, .bool false, .int .i64 0, .bool false, .slice none 0 0] 56)) := fun k => (((Evo.refl _ w).alloc _).alloc _).alloc _
  have hbr : ∀ k : Int, (((w.alloc (.cells #[.int .i64 t.blocks, .slice S 8 cs, .slice E 2 ce, .int .u64 t.counter, .slice L ll.length cl, .int .i64 t.reads, .bool t.armed, .int .i64 t.power, .bool t.dead, .slice T t.trace.length ct] 56)).alloc (.cells #[.int .i64 k, .int .i64 at_, .int .i64 slot, .int .i64 m, .slice BV b.length cb] 44)).alloc (.cells #[.int .i64 0, .slice none 0 0, .slice none 0 0, .int .u64 0, .slice none 0 0, .int .i64 0, .bool false, .int .i64 0, .bool false, .slice none 0 0] 56)).heap[w.heap.size + 2]? = some (.cells z56 56 (0, 0)) := fun k => by
    have := heap_alloc_new ((w.alloc (.cells #[.int .i64 t.blocks, .slice S 8 cs, .slice E 2 ce, .int .u64 t.counter, .slice L ll.length cl, .int .i64 t.reads, .bool t.armed, .int .i64 t.power, .bool t.dead, .slice T t.trace.length ct] 56)).alloc (.cells #[.int .i64 k, .int .i64 at_, .int .i64 slot, .int .i64 m, .slice BV b.length cb] 44)) (.cells z56 56)
    rw [World.size_alloc, World.size_alloc] at this
    exact this
  have hR0 : ∀ k : Int, RefT N (((w.alloc (.cells #[.int .i64 t.blocks, .slice S 8 cs, .slice E 2 ce, .int .u64 t.counter, .slice L ll.length cl, .int .i64 t.reads, .bool t.armed, .int .i64 t.power, .bool t.dead, .slice T t.trace.length ct] 56)).alloc (.cells #[.int .i64 k, .int .i64 at_, .int .i64 slot, .int .i64 m, .slice BV b.length cb] 44)).alloc (.cells #[.int .i64 0, .slice none 0 0, .slice none 0 0, .int .u64 0, .slice none 0 0, .int .i64 0, .bool false, .int .i64 0, .bool false, .slice none 0 0] 56)) (.agg #[.int .i64 t.blocks, .slice S 8 cs, .slice E 2 ce, .int .u64 t.counter, .slice L ll.length cl, .int .i64 t.reads, .bool t.armed, .int .i64 t.power, .bool t.dead, .slice T t.trace.length ct]) t n := fun k => ⟨S, E, L, T, cs, ce, cl, ct, sl, ll, rfl, hD.evo0 (hev k), hll⟩
  have hN0 : ∀ k : Int, ∀ r, N r → r < (((w.alloc (.cells #[.int .i64 t.blocks, .slice S 8 cs, .slice E 2 ce, .int .u64 t.counter, .slice L ll.length cl, .int .i64 t.reads, .bool t.armed, .int .i64 t.power, .bool t.dead, .slice T t.trace.length ct] 56)).alloc (.cells #[.int .i64 k, .int .i64 at_, .int .i64 slot, .int .i64 m, .slice BV b.length cb] 44)).alloc (.cells #[.int .i64 0, .slice none 0 0, .slice none 0 0, .int .u64 0, .slice none 0 0, .int .i64 0, .bool false, .int .i64 0, .bool false, .slice none 0 0] 56)).heap.size := fun k r hr => Nat.lt_of_lt_of_le (hN r hr) (hev k).size
  have hs0 : ∀ k : Int, SrcN N (((w.alloc (.cells #[.int .i64 t.blocks, .slice S 8 cs, .slice E 2 ce, .int .u64 t.counter, .slice L ll.length cl, .int .i64 t.reads, .bool t.armed, .int .i64 t.power, .bool t.dead, .slice T t.trace.length ct] 56)).alloc (.cells #[.int .i64 k, .int .i64 at_, .int .i64 slot, .int .i64 m, .slice BV b.length cb] 44)).alloc (.cells #[.int .i64 0, .slice none 0 0, .slice none 0 0, .int .u64 0, .slice none 0 0, .int .i64 0, .bool false, .int .i64 0, .bool false, .slice none 0 0] 56)) 1 (.slice BV b.length cb) b.length (bys b) := fun k => hs.evo0 (hev k)
  have HEV := Lib.hid hev
  have HBR := Lib.hid hbr
  have HR0 := Lib.hid hR0
  have HS0 := Lib.hid hs0
  have HN0 := Lib.hid hN0
  clear hev hbr hR0 hs0 hN0
  unfold tcells
  by_cases h1 : kind = 1
  · subst h1
    have hcall := rread_walk N _ (HN0.out 1) _ t n (HR0.out 1) (by omega) hb at_ slot
    have Hcall := Lib.hid hcall
    clear hcall
    go_enter Try.func29, Try.ntmps29
    go_wp2_with fail
    refine Hcall.out.mono ?_
    rintro e w1 ⟨v', B, d, rfl, hR1, hs1, ev1⟩
    obtain ⟨C', rfl, hCs, hC1, w3, hst, hc3, hR3, ev3, hg2⟩ := fin_put hR1 ((ev1.block _ (heap_lt (HBR.out 1)) (fun hf => hf)).trans (HBR.out 1))
    have hld := load56 (w1.alloc (.cells C' 56)) w1.heap.size _ (heap_alloc_new _ _) hCs
    have ew3 : Evo (fun _ => False) w w3 := (((HEV.out 1).two ev1).alloc _).trans ev3 (fun k hk => .inr (by have : k = w.heap.size + 2 := hk; omega))
    have hs3 : SrcN N w3 1 (.slice B (t.readB at_ slot).length d) (t.readB at_ slot).length (bys (t.readB at_ slot)) := (hs1.alloc _).keepZ ev3 hg2
    have HC := Lib.hid (show C'.size = 10 ∧ C'.all (·.oneCell') = true from ⟨hCs, hC1⟩)
    obtain ⟨x0, x1, x2, x3, x4, x5, x6, x7, x8, x9, rfl⟩ : ∃ x0 x1 x2 x3 x4 x5 x6 x7 x8 x9, C' = #[x0, x1, x2, x3, x4, x5, x6, x7, x8, x9] := by
      obtain ⟨l⟩ := C'
      match l, hCs with
      | [x0, x1, x2, x3, x4, x5, x6, x7, x8, x9], _ => exact ⟨x0, x1, x2, x3, x4, x5, x6, x7, x8, x9, rfl⟩
    have Hld := Lib.hid hld
    have Hst := Lib.hid hst
    have Hc3 := Lib.hid hc3
    clear hld hst hc3 hCs hC1
    go_wp2_with (first | (refine wpList_run rfl (run_op_alloc rfl (alloc56 _)) ?_) | (refine wpList_void rfl (run_op_store rfl (store56_new _ _ HC.out.1 HC.out.2)) ?_) | (refine wpList_run rfl (run_op_load rfl Hld.out) ?_) | (refine wpList_void rfl (run_op_store rfl Hst.out) ?_))
    refine bodyPost_ret (v := .tuple #[.agg #[x0, x1, x2, x3, x4, x5, x6, x7, x8, x9], .slice B (t.readB at_ slot).length d, .bool false]) (by simp [results, Try.results29, go_sem, Hc3.out]) rfl ⟨_, B, d, rfl, hR3.more, hs3, ew3⟩
  by_cases h2 : kind = 2
  · subst h2
    have hcall := rwrite_walk N _ (HN0.out 2) _ t n (HR0.out 2) (by omega) hb at_ slot _ b (HS0.out 2) hl
    have Hcall := Lib.hid hcall
    clear hcall
    go_enter Try.func29, Try.ntmps29
    go_wp2_with fail
    refine Hcall.out.mono ?_
    rintro e w1 ⟨v', rfl, hR1, ev1⟩
    obtain ⟨C', rfl, hCs, hC1, w3, hst, hc3, hR3, ev3, hg2⟩ := fin_put hR1 ((ev1.block _ (heap_lt (HBR.out 2)) (fun hf => hf)).trans (HBR.out 2))
    have hld := load56 (w1.alloc (.cells C' 56)) w1.heap.size _ (heap_alloc_new _ _) hCs
    have ew3 : Evo (fun _ => False) w w3 := (((HEV.out 2).two ev1).alloc _).trans ev3 (fun k hk => .inr (by have : k = w.heap.size + 2 := hk; omega))
    have HC := Lib.hid (show C'.size = 10 ∧ C'.all (·.oneCell') = true from ⟨hCs, hC1⟩)
    obtain ⟨x0, x1, x2, x3, x4, x5, x6, x7, x8, x9, rfl⟩ : ∃ x0 x1 x2 x3 x4 x5 x6 x7 x8 x9, C' = #[x0, x1, x2, x3, x4, x5, x6, x7, x8, x9] := by
      obtain ⟨l⟩ := C'
      match l, hCs with
      | [x0, x1, x2, x3, x4, x5, x6, x7, x8, x9], _ => exact ⟨x0, x1, x2, x3, x4, x5, x6, x7, x8, x9, rfl⟩
    have Hld := Lib.hid hld
    have Hst := Lib.hid hst
    have Hc3 := Lib.hid hc3
    clear hld hst hc3 hCs hC1
    go_wp2_with (first | (refine wpList_run rfl (run_op_alloc rfl (alloc56 _)) ?_) | (refine wpList_void rfl (run_op_store rfl (store56_new _ _ HC.out.1 HC.out.2)) ?_) | (refine wpList_run rfl (run_op_load rfl Hld.out) ?_) | (refine wpList_void rfl (run_op_store rfl Hst.out) ?_))
    refine bodyPost_ret (v := .tuple #[.agg #[x0, x1, x2, x3, x4, x5, x6, x7, x8, x9], .slice none 0 0, .bool (t.writeB at_ slot)]) (by simp [results, Try.results29, go_sem, Hc3.out]) rfl ⟨_, none, 0, rfl, hR3.more, SrcN.nil _ _, ew3⟩
  by_cases h3 : kind = 3
  · subst h3
    have hcall := rlook_walk N _ (HN0.out 3) _ t n (HR0.out 3) (by omega) hb at_
    have Hcall := Lib.hid hcall
    clear hcall
    go_enter Try.func29, Try.ntmps29
    go_wp2_with fail
    refine Hcall.out.mono ?_
    rintro e w1 ⟨v', B, d, rfl, hR1, hs1, ev1⟩
    obtain ⟨C', rfl, hCs, hC1, w3, hst, hc3, hR3, ev3, hg2⟩ := fin_put hR1 ((ev1.block _ (heap_lt (HBR.out 3)) (fun hf => hf)).trans (HBR.out 3))
    have hld := load56 (w1.alloc (.cells C' 56)) w1.heap.size _ (heap_alloc_new _ _) hCs
    have ew3 : Evo (fun _ => False) w w3 := (((HEV.out 3).two ev1).alloc _).trans ev3 (fun k hk => .inr (by have : k = w.heap.size + 2 := hk; omega))
    have hs3 : SrcN N w3 1 (.slice B (t.lookB at_).length d) (t.lookB at_).length (bys (t.lookB at_)) := (hs1.alloc _).keepZ ev3 hg2
    have HC := Lib.hid (show C'.size = 10 ∧ C'.all (·.oneCell') = true from ⟨hCs, hC1⟩)
    obtain ⟨x0, x1, x2, x3, x4, x5, x6, x7, x8, x9, rfl⟩ : ∃ x0 x1 x2 x3 x4 x5 x6 x7 x8 x9, C' = #[x0, x1, x2, x3, x4, x5, x6, x7, x8, x9] := by
      obtain ⟨l⟩ := C'
      match l, hCs with
      | [x0, x1, x2, x3, x4, x5, x6, x7, x8, x9], _ => exact ⟨x0, x1, x2, x3, x4, x5, x6, x7, x8, x9, rfl⟩
    have Hld := Lib.hid hld
    have Hst := Lib.hid hst
    have Hc3 := Lib.hid hc3
    clear hld hst hc3 hCs hC1
    go_wp2_with (first | (refine wpList_run rfl (run_op_alloc rfl (alloc56 _)) ?_) | (refine wpList_void rfl (run_op_store rfl (store56_new _ _ HC.out.1 HC.out.2)) ?_) | (refine wpList_run rfl (run_op_load rfl Hld.out) ?_) | (refine wpList_void rfl (run_op_store rfl Hst.out) ?_))
    refine bodyPost_ret (v := .tuple #[.agg #[x0, x1, x2, x3, x4, x5, x6, x7, x8, x9], .slice B (t.lookB at_).length d, .bool false]) (by simp [results, Try.results29, go_sem, Hc3.out]) rfl ⟨_, B, d, rfl, hR3.more, hs3, ew3⟩
  by_cases h4 : kind = 4
  · subst h4
    have hcall := rseal_walk N _ (HN0.out 4) _ t n (HR0.out 4) (by omega) hb at_ _ b (HS0.out 4) hl
    have Hcall := Lib.hid hcall
    clear hcall
    go_enter Try.func29, Try.ntmps29
    go_wp2_with fail
    refine Hcall.out.mono ?_
    rintro e w1 ⟨v', rfl, hR1, ev1⟩
    obtain ⟨C', rfl, hCs, hC1, w3, hst, hc3, hR3, ev3, hg2⟩ := fin_put hR1 ((ev1.block _ (heap_lt (HBR.out 4)) (fun hf => hf)).trans (HBR.out 4))
    have hld := load56 (w1.alloc (.cells C' 56)) w1.heap.size _ (heap_alloc_new _ _) hCs
    have ew3 : Evo (fun _ => False) w w3 := (((HEV.out 4).two ev1).alloc _).trans ev3 (fun k hk => .inr (by have : k = w.heap.size + 2 := hk; omega))
    have HC := Lib.hid (show C'.size = 10 ∧ C'.all (·.oneCell') = true from ⟨hCs, hC1⟩)
    obtain ⟨x0, x1, x2, x3, x4, x5, x6, x7, x8, x9, rfl⟩ : ∃ x0 x1 x2 x3 x4 x5 x6 x7 x8 x9, C' = #[x0, x1, x2, x3, x4, x5, x6, x7, x8, x9] := by
      obtain ⟨l⟩ := C'
      match l, hCs with
      | [x0, x1, x2, x3, x4, x5, x6, x7, x8, x9], _ => exact ⟨x0, x1, x2, x3, x4, x5, x6, x7, x8, x9, rfl⟩
    have Hld := Lib.hid hld
    have Hst := Lib.hid hst
    have Hc3 := Lib.hid hc3
    clear hld hst hc3 hCs hC1
    go_wp2_with (first | (refine wpList_run rfl (run_op_alloc rfl (alloc56 _)) ?_) | (refine wpList_void rfl (run_op_store rfl (store56_new _ _ HC.out.1 HC.out.2)) ?_) | (refine wpList_run rfl (run_op_load rfl Hld.out) ?_) | (refine wpList_void rfl (run_op_store rfl Hst.out) ?_))
    refine bodyPost_ret (v := .tuple #[.agg #[x0, x1, x2, x3, x4, x5, x6, x7, x8, x9], .slice none 0 0, .bool (t.sealB at_ b)]) (by simp [results, Try.results29, go_sem, Hc3.out]) rfl ⟨_, none, 0, rfl, hR3.more, SrcN.nil _ _, ew3⟩
  by_cases h5 : kind = 5
  · subst h5
    have hcall := rbump_walk N _ (HN0.out 5) _ t n (HR0.out 5) (by omega) hb hc0 hc1
    have Hcall := Lib.hid hcall
    clear hcall
    go_enter Try.func29, Try.ntmps29
    go_wp2_with fail
    refine Hcall.out.mono ?_
    rintro e w1 ⟨v', rfl, hR1, ev1⟩
    obtain ⟨C', rfl, hCs, hC1, w3, hst, hc3, hR3, ev3, hg2⟩ := fin_put hR1 ((ev1.block _ (heap_lt (HBR.out 5)) (fun hf => hf)).trans (HBR.out 5))
    have hld := load56 (w1.alloc (.cells C' 56)) w1.heap.size _ (heap_alloc_new _ _) hCs
    have ew3 : Evo (fun _ => False) w w3 := (((HEV.out 5).two ev1).alloc _).trans ev3 (fun k hk => .inr (by have : k = w.heap.size + 2 := hk; omega))
    have HC := Lib.hid (show C'.size = 10 ∧ C'.all (·.oneCell') = true from ⟨hCs, hC1⟩)
    obtain ⟨x0, x1, x2, x3, x4, x5, x6, x7, x8, x9, rfl⟩ : ∃ x0 x1 x2 x3 x4 x5 x6 x7 x8 x9, C' = #[x0, x1, x2, x3, x4, x5, x6, x7, x8, x9] := by
      obtain ⟨l⟩ := C'
      match l, hCs with
      | [x0, x1, x2, x3, x4, x5, x6, x7, x8, x9], _ => exact ⟨x0, x1, x2, x3, x4, x5, x6, x7, x8, x9, rfl⟩
    have Hld := Lib.hid hld
    have Hst := Lib.hid hst
    have Hc3 := Lib.hid hc3
    clear hld hst hc3 hCs hC1
    go_wp2_with (first | (refine wpList_run rfl (run_op_alloc rfl (alloc56 _)) ?_) | (refine wpList_void rfl (run_op_store rfl (store56_new _ _ HC.out.1 HC.out.2)) ?_) | (refine wpList_run rfl (run_op_load rfl Hld.out) ?_) | (refine wpList_void rfl (run_op_store rfl Hst.out) ?_))
    refine bodyPost_ret (v := .tuple #[.agg #[x0, x1, x2, x3, x4, x5, x6, x7, x8, x9], .slice none 0 0, .bool (t.bumpB)]) (by simp [results, Try.results29, go_sem, Hc3.out]) rfl ⟨_, none, 0, rfl, hR3.more, SrcN.nil _ _, ew3⟩
  by_cases h6 : kind = 6
  · subst h6
    obtain ⟨i91, hi91, hz91, hs91, hb91⟩ := info_parts Try.info91
    obtain ⟨us, hul, hsr0, hus0⟩ := hD.lies
    have e01 := HEV.out 6
    have hsr := hsr0.1.evo e01 (fun _ _ _ hf => hf)
    have b1 : (((w.alloc (.cells #[.int .i64 t.blocks, .slice S 8 cs, .slice E 2 ce, .int .u64 t.counter, .slice L ll.length cl, .int .i64 t.reads, .bool t.armed, .int .i64 t.power, .bool t.dead, .slice T t.trace.length ct] 56)).alloc (.cells #[.int .i64 6, .int .i64 at_, .int .i64 slot, .int .i64 m, .slice BV b.length cb] 44)).alloc (.cells #[.int .i64 0, .slice none 0 0, .slice none 0 0, .int .u64 0, .slice none 0 0, .int .i64 0, .bool false, .int .i64 0, .bool false, .slice none 0 0] 56)).heap[w.heap.size]? = some (.cells #[.int .i64 t.blocks, .slice S 8 cs, .slice E 2 ce, .int .u64 t.counter, .slice L ll.length cl, .int .i64 t.reads, .bool t.armed, .int .i64 t.power, .bool t.dead, .slice T t.trace.length ct] 56 (0, 0)) := by
      rw [Below.heap_alloc _ _ _ (by simp; omega), Below.heap_alloc _ _ _ (by simp)]
      exact heap_alloc_new _ _
    have b2 := HBR.out 6
    have b3 : (((w.alloc (.cells #[.int .i64 t.blocks, .slice S 8 cs, .slice E 2 ce, .int .u64 t.counter, .slice L ll.length cl, .int .i64 t.reads, .bool t.armed, .int .i64 t.power, .bool t.dead, .slice T t.trace.length ct] 56)).alloc (.cells #[.int .i64 6, .int .i64 at_, .int .i64 slot, .int .i64 m, .slice BV b.length cb] 44)).alloc (.cells #[.int .i64 0, .slice none 0 0, .slice none 0 0, .int .u64 0, .slice none 0 0, .int .i64 0, .bool false, .int .i64 0, .bool false, .slice none 0 0] 56)).heap[w.heap.size + 1]? = some (.cells #[.int .i64 6, .int .i64 at_, .int .i64 slot, .int .i64 m, .slice BV b.length cb] 44 (0, 0)) := by
      rw [Below.heap_alloc _ _ _ (by simp)]
      have := heap_alloc_new (w.alloc (.cells #[.int .i64 t.blocks, .slice S 8 cs, .slice E 2 ce, .int .u64 t.counter, .slice L ll.length cl, .int .i64 t.reads, .bool t.armed, .int .i64 t.power, .bool t.dead, .slice T t.trace.length ct] 56)) (.cells #[.int .i64 6, .int .i64 at_, .int .i64 slot, .int .i64 m, .slice BV b.length cb] 44)
      rw [World.size_alloc] at this
      exact this
    obtain ⟨A1, c1, w2, hr1, ho1, hg1⟩ := run_append_fresh (P := Try.prog) (((w.alloc (.cells #[.int .i64 t.blocks, .slice S 8 cs, .slice E 2 ce, .int .u64 t.counter, .slice L ll.length cl, .int .i64 t.reads, .bool t.armed, .int .i64 t.power, .bool t.dead, .slice T t.trace.length ct] 56)).alloc (.cells #[.int .i64 6, .int .i64 at_, .int .i64 slot, .int .i64 m, .slice BV b.length cb] 44)).alloc (.cells #[.int .i64 0, .slice none 0 0, .slice none 0 0, .int .u64 0, .slice none 0 0, .int .i64 0, .bool false, .int .i64 0, .bool false, .slice none 0 0] 56)) 54 54 91 i91 _ 2 32 Try.underlying54 hi91 hz91 hs91 hb91 rfl (by omega) _ ll.length _ hsr (lie_one hus0) (by simp only [maxLen]; omega) (by omega)
    have e12 : Evo (fun _ => False) (((w.alloc (.cells #[.int .i64 t.blocks, .slice S 8 cs, .slice E 2 ce, .int .u64 t.counter, .slice L ll.length cl, .int .i64 t.reads, .bool t.armed, .int .i64 t.power, .bool t.dead, .slice T t.trace.length ct] 56)).alloc (.cells #[.int .i64 6, .int .i64 at_, .int .i64 slot, .int .i64 m, .slice BV b.length cb] 44)).alloc (.cells #[.int .i64 0, .slice none 0 0, .slice none 0 0, .int .u64 0, .slice none 0 0, .int .i64 0, .bool false, .int .i64 0, .bool false, .slice none 0 0] 56)) w2 := (Evo.refl _ _).grown hg1 (fun _ hf => by cases hf)
    have m3 : w2.cell? ⟨w.heap.size + 1, 3, none⟩ = some (.int .i64 m) := blk_cell ((e12.block _ (heap_lt b3) (fun hf => hf)).trans b3) 3
    have m4 : w2.cell? ⟨w.heap.size + 1, 4, none⟩ = some (.slice BV b.length cb) := blk_cell ((e12.block _ (heap_lt b3) (fun hf => hf)).trans b3) 4
    clear b3
    obtain ⟨W3, hW3⟩ : ∃ W, W = w2.alloc (.cells #[.int .i64 m, .slice BV b.length cb] 91) := ⟨_, rfl⟩
    have e23 : Evo (fun _ => False) w2 W3 := by rw [hW3]; exact (Evo.refl _ w2).alloc _
    obtain ⟨v4, w4, hr2, ho2, hg2, _⟩ := run_append_src (P := Try.prog) W3 (((w.alloc (.cells #[.int .i64 t.blocks, .slice S 8 cs, .slice E 2 ce, .int .u64 t.counter, .slice L ll.length cl, .int .i64 t.reads, .bool t.armed, .int .i64 t.power, .bool t.dead, .slice T t.trace.length ct] 56)).alloc (.cells #[.int .i64 6, .int .i64 at_, .int .i64 slot, .int .i64 m, .slice BV b.length cb] 44)).alloc (.cells #[.int .i64 0, .slice none 0 0, .slice none 0 0, .int .u64 0, .slice none 0 0, .int .i64 0, .bool false, .int .i64 0, .bool false, .slice none 0 0] 56)).heap.size 54 54 91 i91 _ 2 32 Try.underlying54 hi91 hz91 hs91 hb91 rfl (by omega) (.slice A1 ll.length c1) ll.length _ (by rw [hW3]; exact ho1.alloc _) (.slice (some ⟨w2.heap.size, 0, none⟩) 1 1) 1 [.int .i64 m, .slice BV b.length cb]
      (by rw [hW3]; exact Src.laid _ _ _ _ _ rfl) (by simp [Value.oneCell']) (by simp only [maxLen]; omega) (by omega) (by have := e12.size; have := e23.size; omega)
    have e34 : Evo (fun k => (((w.alloc (.cells #[.int .i64 t.blocks, .slice S 8 cs, .slice E 2 ce, .int .u64 t.counter, .slice L ll.length cl, .int .i64 t.reads, .bool t.armed, .int .i64 t.power, .bool t.dead, .slice T t.trace.length ct] 56)).alloc (.cells #[.int .i64 6, .int .i64 at_, .int .i64 slot, .int .i64 m, .slice BV b.length cb] 44)).alloc (.cells #[.int .i64 0, .slice none 0 0, .slice none 0 0, .int .u64 0, .slice none 0 0, .int .i64 0, .bool false, .int .i64 0, .bool false, .slice none 0 0] 56)).heap.size ≤ k) W3 w4 := (Evo.refl _ W3).grown hg2 (fun g hg => .inl (ho1.lt g hg).1)
    have e14 : Evo (fun _ => False) (((w.alloc (.cells #[.int .i64 t.blocks, .slice S 8 cs, .slice E 2 ce, .int .u64 t.counter, .slice L ll.length cl, .int .i64 t.reads, .bool t.armed, .int .i64 t.power, .bool t.dead, .slice T t.trace.length ct] 56)).alloc (.cells #[.int .i64 6, .int .i64 at_, .int .i64 slot, .int .i64 m, .slice BV b.length cb] 44)).alloc (.cells #[.int .i64 0, .slice none 0 0, .slice none 0 0, .int .u64 0, .slice none 0 0, .int .i64 0, .bool false, .int .i64 0, .bool false, .slice none 0 0] 56)) w4 := (e12.two e23).trans e34 (fun k hk => .inr hk)
    obtain ⟨A4, c4, rfl, _⟩ := ownsRow_slice ho2
    have d1 := (e14.block _ (heap_lt b1) (fun hf => hf)).trans b1
    have d2 := (e14.block _ (heap_lt b2) (fun hf => hf)).trans b2
    have q4 : w4.cell? ⟨w.heap.size, 4, none⟩ = some (.slice L ll.length cl) := blk_cell d1 4
    have f4 : w4.frozen? ⟨w.heap.size, 4, none⟩ = false := blk_frozen d1 4
    have d1' : (w4.setCell ⟨w.heap.size, 4, none⟩ (.slice A4 (ll.length + 1) c4)).heap[w.heap.size]? = some (.cells #[.int .i64 t.blocks, .slice S 8 cs, .slice E 2 ce, .int .u64 t.counter, .slice A4 (ll.length + 1) c4, .int .i64 t.reads, .bool t.armed, .int .i64 t.power, .bool t.dead, .slice T t.trace.length ct] 56 (0, 0)) := blk_set d1 4 (.slice A4 (ll.length + 1) c4)
    have e45 : Evo (fun k => k = w.heap.size) w4 (w4.setCell ⟨w.heap.size, 4, none⟩ (.slice A4 (ll.length + 1) c4)) := (Evo.refl (fun k => k = w.heap.size) w4).setCell (p := ⟨w.heap.size, 4, none⟩) (.inl rfl) _
    have d2' := (e45.block _ (heap_lt d2) (fun e => by have e : w.heap.size + 2 = w.heap.size := e; omega)).trans d2
    have hld := load56 _ _ _ d1' rfl
    obtain ⟨w6, hst, d3, e56⟩ := store56 _ _ _ #[.int .i64 t.blocks, .slice S 8 cs, .slice E 2 ce, .int .u64 t.counter, .slice A4 (ll.length + 1) c4, .int .i64 t.reads, .bool t.armed, .int .i64 t.power, .bool t.dead, .slice T t.trace.length ct] d2' rfl rfl (by simp [Value.oneCell'])
    have hc6 := blk_cell d3
    have e16 : Evo (fun _ => False) w w6 := ((e01.two e14).trans e45 (fun k hk => .inr (by have : k = w.heap.size := hk; omega))).trans e56 (fun k hk => .inr (by have : k = w.heap.size + 2 := hk; omega))
    have zL : (((w.alloc (.cells #[.int .i64 t.blocks, .slice S 8 cs, .slice E 2 ce, .int .u64 t.counter, .slice L ll.length cl, .int .i64 t.reads, .bool t.armed, .int .i64 t.power, .bool t.dead, .slice T t.trace.length ct] 56)).alloc (.cells #[.int .i64 6, .int .i64 at_, .int .i64 slot, .int .i64 m, .slice BV b.length cb] 44)).alloc (.cells #[.int .i64 0, .slice none 0 0, .slice none 0 0, .int .u64 0, .slice none 0 0, .int .i64 0, .bool false, .int .i64 0, .bool false, .slice none 0 0] 56)).heap.size = w.heap.size + 3 := by simp
    have e46 : ∀ k, k ≠ w.heap.size → k ≠ w.heap.size + 2 → k < w4.heap.size → w6.heap[k]? = w4.heap[k]? := fun k h1 h2 h3 => (e56.block k (Nat.lt_of_lt_of_le h3 e45.size) h2).trans (e45.block k h3 h1)
    have hL6 : LieOf N w6 (.slice A4 (ll.length + 1) c4) (ll ++ [(m, b)]) := by
      refine ⟨us ++ [.slice BV b.length cb], by simp [hul], ?_, ?_⟩
      · have hsrc := Src.of_own ho2
        rw [lieCells_snoc _ _ hul]
        rw [show (ll ++ [((m, b) : Int × List Int)]).length = ll.length + 1 by simp]
        refine ⟨hsrc.kept (fun ad e => ?_), fun _ ad c e hf => ?_⟩
        · cases e
          have := ho2.lt ad.block rfl
          exact e46 _ (by omega) (by omega) this.2
        · cases e
          have := (ho2.lt ad.block rfl).1
          have := hN _ hf
          omega
      · intro i x u hx hu
        rcases Nat.lt_trichotomy i ll.length with hi | hi | hi
        · rw [List.getElem?_append_left hi] at hx
          rw [List.getElem?_append_left (by omega)] at hu
          exact (hus0 i x u hx hu).evo0 e16
        · subst hi
          rw [List.getElem?_append_right (by omega)] at hx hu
          rw [hul] at hu
          simp at hx hu
          subst hx hu
          exact hs.evo0 e16
        · rw [List.getElem?_append_right (by omega)] at hx
          have : i - ll.length ≠ 0 := by omega
          simp [this] at hx
    have hkL : ∀ ad, A4 = some ad → KindN N w6 91 ad.block := fun ad e => by
      have h1 := ho2.lt ad.block (by rw [e]; rfl)
      obtain ⟨cc, ff, hcc⟩ := ownsRow_kind ho2 ad.block (by rw [e]; rfl)
      exact ⟨⟨cc, ff, (e46 _ (by omega) (by omega) h1.2).trans hcc⟩, fun hf => by have := hN _ hf; omega⟩
    have hRf : RefT N w6 (.agg #[.int .i64 t.blocks, .slice S 8 cs, .slice E 2 ce, .int .u64 t.counter, .slice A4 (ll.length + 1) c4, .int .i64 t.reads, .bool t.armed, .int .i64 t.power, .bool t.dead, .slice T t.trace.length ct]) (t.lie m b) (n + 1) := by
      have hD6 := hD.evo0 e16
      refine ⟨S, E, A4, T, cs, ce, c4, ct, sl, ll ++ [(m, b)], by rw [List.length_append]; rfl, ⟨hD6.slots, hD6.slen, hD6.sat, hD6.seals, by rw [List.length_append]; exact hL6, fun r => ?_, hD6.trace, hD6.blocks, hD6.kS, hD6.kE, hkL, hD6.kT⟩, by rw [List.length_append]; simp; omega⟩
      rw [lastLie_snoc, hD.last]
      rfl
    rw [hW3] at hr2
    have Hr1 := Lib.hid hr1
    have Hr2 := Lib.hid hr2
    have Hld := Lib.hid hld
    have Hst := Lib.hid hst
    have Hc6 := Lib.hid hc6
    have HRf := Lib.hid hRf
    have HE := Lib.hid e16
    clear hr1 hr2 hld hst hc6 hRf hL6 hkL e46 d1' d2' d3 e45 e56 d1 d2 b1 b2 ho1 ho2 hg1 hg2 e12 e23 e34 e14 hW3 hsr hsr0 hus0 zL e01 e16 hs
    have tok1 : True := trivial
    go_enter Try.func29, Try.ntmps29
    go_wp2_with (first | (at_builtin; have _t := tok1; refine wpList_run rfl (run_op_append rfl Hr1.out) ?_; clear _t tok1) | (at_builtin; refine wpList_run rfl (run_op_append rfl Hr2.out) ?_) | (refine wpList_run rfl (run_op_load rfl Hld.out) ?_) | (refine wpList_void rfl (run_op_store rfl Hst.out) ?_))
    refine bodyPost_ret (v := .tuple #[.agg #[.int .i64 t.blocks, .slice S 8 cs, .slice E 2 ce, .int .u64 t.counter, .slice A4 (ll.length + 1) c4, .int .i64 t.reads, .bool t.armed, .int .i64 t.power, .bool t.dead, .slice T t.trace.length ct], .slice none 0 0, .bool false]) (by simp [results, Try.results29, go_sem, Hc6.out]) rfl ⟨_, none, 0, rfl, HRf.out, SrcN.nil _ _, HE.out⟩
  by_cases h7 : kind = 7
  · subst h7
    cases hd : t.dead with
    | true =>
      have e0 : t.arm m = t := by simp [WS.arm, hd]
      have HQ : Hid (∀ d, t.dead = d → (Value.agg #[.int .i64 t.blocks, .slice S 8 cs, .slice E 2 ce, .int .u64 t.counter, .slice L ll.length cl, .int .i64 t.reads, .bool t.armed, .int .i64 t.power, .bool d, .slice T t.trace.length ct]) = .agg (tcells t (.slice S 8 cs) (.slice E 2 ce) (.slice L ll.length cl) (.slice T t.trace.length ct))) := by rintro d rfl; rfl
      have Hd := Lib.hid hd
      have hX : ∀ w', Evo (fun _ => False) w w' → RefT N w' (.agg #[.int .i64 t.blocks, .slice S 8 cs, .slice E 2 ce, .int .u64 t.counter, .slice L ll.length cl, .int .i64 t.reads, .bool t.armed, .int .i64 t.power, .bool true, .slice T t.trace.length ct]) (t.arm m) n := fun w' he => ⟨S, E, L, T, cs, ce, cl, ct, sl, ll, (HQ.out _ Hd.out).trans (by rw [e0]), (hD.evo0 he).scal (by rw [e0]) (by rw [e0]) (by rw [e0]) (by rw [e0]) (by rw [e0]), hll⟩
      have HX := Lib.hid hX
      clear hX
      clear hd e0
      go_enter Try.func29, Try.ntmps29
      go_wp2
      refine bodyPost_ret (v := .tuple #[.agg #[.int .i64 t.blocks, .slice S 8 cs, .slice E 2 ce, .int .u64 t.counter, .slice L ll.length cl, .int .i64 t.reads, .bool t.armed, .int .i64 t.power, .bool true, .slice T t.trace.length ct], .slice none 0 0, .bool false]) (by simp [results, Try.results29, go_sem]) rfl ⟨_, none, 0, rfl, ?_, SrcN.nil _ _, (((Evo.refl _ w).alloc _).alloc _).alloc _⟩
      exact (HX.out _ ((((Evo.refl _ w).alloc _).alloc _).alloc _)).more
    | false =>
      have e0 : t.arm m = { t with armed := true, power := max 0 (min m 1000000) } := by simp [WS.arm, hd]
      have hX : ∀ p, max 0 (min m 1000000) = p → ∀ w', Evo (fun _ => False) w w' → RefT N w' (.agg #[.int .i64 t.blocks, .slice S 8 cs, .slice E 2 ce, .int .u64 t.counter, .slice L ll.length cl, .int .i64 t.reads, .bool true, .int .i64 p, .bool false, .slice T t.trace.length ct]) (t.arm m) n := by
        rintro p rfl w' he
        rw [e0]
        exact ⟨S, E, L, T, cs, ce, cl, ct, sl, ll, by simp [tcells, hd], (hD.evo0 he).scal rfl rfl rfl rfl rfl, hll⟩
      have HX0 := Lib.hid hX
      clear hX hd e0
      by_cases h1 : 1000000 < m
      · have HX := Lib.hid (HX0.out 1000000 (by omega))
        go_enter Try.func29, Try.ntmps29
        go_wp2
        refine bodyPost_ret (v := .tuple #[.agg #[.int .i64 t.blocks, .slice S 8 cs, .slice E 2 ce, .int .u64 t.counter, .slice L ll.length cl, .int .i64 t.reads, .bool true, .int .i64 1000000, .bool false, .slice T t.trace.length ct], .slice none 0 0, .bool false]) (by simp [results, Try.results29, go_sem]) rfl ⟨_, none, 0, rfl, ?_, SrcN.nil _ _, (((Evo.refl _ w).alloc _).alloc _).alloc _⟩
        exact (HX.out _ ((((Evo.refl _ w).alloc _).alloc _).alloc _)).more
      by_cases h2 : 0 < m
      · have HX := Lib.hid (HX0.out m (by omega))
        have h1a : m ≤ 1000000 := by omega
        go_enter Try.func29, Try.ntmps29
        go_wp2
        refine bodyPost_ret (v := .tuple #[.agg #[.int .i64 t.blocks, .slice S 8 cs, .slice E 2 ce, .int .u64 t.counter, .slice L ll.length cl, .int .i64 t.reads, .bool true, .int .i64 m, .bool false, .slice T t.trace.length ct], .slice none 0 0, .bool false]) (by simp [results, Try.results29, go_sem]) rfl ⟨_, none, 0, rfl, ?_, SrcN.nil _ _, (((Evo.refl _ w).alloc _).alloc _).alloc _⟩
        exact (HX.out _ ((((Evo.refl _ w).alloc _).alloc _).alloc _)).more
      by_cases h3 : m = 0
      · have HX := Lib.hid (HX0.out 0 (by omega))
        have HX : Hid (∀ w', Evo (fun _ => False) w w' → RefT N w' (.agg #[.int .i64 t.blocks, .slice S 8 cs, .slice E 2 ce, .int .u64 t.counter, .slice L ll.length cl, .int .i64 t.reads, .bool true, .int .i64 0, .bool false, .slice T t.trace.length ct]) (t.arm m) n) := HX
        subst h3
        go_enter Try.func29, Try.ntmps29
        go_wp2
        refine bodyPost_ret (v := .tuple #[.agg #[.int .i64 t.blocks, .slice S 8 cs, .slice E 2 ce, .int .u64 t.counter, .slice L ll.length cl, .int .i64 t.reads, .bool true, .int .i64 0, .bool false, .slice T t.trace.length ct], .slice none 0 0, .bool false]) (by simp [results, Try.results29, go_sem]) rfl ⟨_, none, 0, rfl, ?_, SrcN.nil _ _, (((Evo.refl _ w).alloc _).alloc _).alloc _⟩
        exact (HX.out _ ((((Evo.refl _ w).alloc _).alloc _).alloc _)).more
      have h4 : m < 0 := by omega
      have HX := Lib.hid (HX0.out 0 (by omega))
      clear h1 h2 h3
      go_enter Try.func29, Try.ntmps29
      go_wp2
      refine bodyPost_ret (v := .tuple #[.agg #[.int .i64 t.blocks, .slice S 8 cs, .slice E 2 ce, .int .u64 t.counter, .slice L ll.length cl, .int .i64 t.reads, .bool true, .int .i64 0, .bool false, .slice T t.trace.length ct], .slice none 0 0, .bool false]) (by simp [results, Try.results29, go_sem]) rfl ⟨_, none, 0, rfl, ?_, SrcN.nil _ _, (((Evo.refl _ w).alloc _).alloc _).alloc _⟩
      exact (HX.out _ ((((Evo.refl _ w).alloc _).alloc _).alloc _)).more
  by_cases h8 : kind = 8
  · subst h8
    have hX : ∀ w', Evo (fun _ => False) w w' → RefT N w' (.agg #[.int .i64 t.blocks, .slice S 8 cs, .slice E 2 ce, .int .u64 t.counter, .slice L ll.length cl, .int .i64 t.reads, .bool false, .int .i64 t.power, .bool false, .slice T t.trace.length ct]) (t.restart) n := fun w' he => ⟨S, E, L, T, cs, ce, cl, ct, sl, ll, rfl, (hD.evo0 he).scal rfl rfl rfl rfl rfl, hll⟩
    have HX := Lib.hid hX
    clear hX
    go_enter Try.func29, Try.ntmps29
    go_wp2
    refine bodyPost_ret (v := .tuple #[.agg #[.int .i64 t.blocks, .slice S 8 cs, .slice E 2 ce, .int .u64 t.counter, .slice L ll.length cl, .int .i64 t.reads, .bool false, .int .i64 t.power, .bool false, .slice T t.trace.length ct], .slice none 0 0, .bool false]) (by simp [results, Try.results29, go_sem]) rfl ⟨_, none, 0, rfl, ?_, SrcN.nil _ _, (((Evo.refl _ w).alloc _).alloc _).alloc _⟩
    exact (HX.out _ ((((Evo.refl _ w).alloc _).alloc _).alloc _)).more
  by_cases h9 : kind = 9
  · subst h9
    have hX : ∀ w', Evo (fun _ => False) w w' → RefT N w' (.agg #[.int .i64 t.blocks, .slice S 8 cs, .slice E 2 ce, .int .u64 (m % 18446744073709551616), .slice L ll.length cl, .int .i64 t.reads, .bool t.armed, .int .i64 t.power, .bool t.dead, .slice T t.trace.length ct]) (t.set (m % 18446744073709551616)) n := fun w' he => ⟨S, E, L, T, cs, ce, cl, ct, sl, ll, rfl, (hD.evo0 he).scal rfl rfl rfl rfl rfl, hll⟩
    have HX := Lib.hid hX
    clear hX
    go_enter Try.func29, Try.ntmps29
    go_wp2
    refine bodyPost_ret (v := .tuple #[.agg #[.int .i64 t.blocks, .slice S 8 cs, .slice E 2 ce, .int .u64 (m % 18446744073709551616), .slice L ll.length cl, .int .i64 t.reads, .bool t.armed, .int .i64 t.power, .bool t.dead, .slice T t.trace.length ct], .slice none 0 0, .bool false]) (by simp [results, Try.results29, go_sem, IntKind.wrap_u64]) rfl ⟨_, none, 0, rfl, ?_, SrcN.nil _ _, (((Evo.refl _ w).alloc _).alloc _).alloc _⟩
    exact (HX.out _ ((((Evo.refl _ w).alloc _).alloc _).alloc _)).more
  have e0 : t.did ⟨kind, at_, slot, m, .slice BV b.length cb, b⟩ = t := by simp [WS.did, h1, h2, h3, h4, h5, h6, h7, h8, h9]
  have e1 : t.didL ⟨kind, at_, slot, m, .slice BV b.length cb, b⟩ = [] := by simp [WS.didL, h1, h3]
  have e2 : t.didB ⟨kind, at_, slot, m, .slice BV b.length cb, b⟩ = false := by simp [WS.didB, h2, h4, h5]
  rw [e0, e1, e2]
  clear e0 e1 e2
  have hX : ∀ w', Evo (fun _ => False) w w' → RefT N w' (.agg #[.int .i64 t.blocks, .slice S 8 cs, .slice E 2 ce, .int .u64 t.counter, .slice L ll.length cl, .int .i64 t.reads, .bool t.armed, .int .i64 t.power, .bool t.dead, .slice T t.trace.length ct]) (t) n := fun w' he => ⟨S, E, L, T, cs, ce, cl, ct, sl, ll, rfl, (hD.evo0 he).scal rfl rfl rfl rfl rfl, hll⟩
  have HX := Lib.hid hX
  clear hX
  have k1 : (kind == 1) = false := by simpa using h1
  have k2 : (kind == 2) = false := by simpa using h2
  have k3 : (kind == 3) = false := by simpa using h3
  have k4 : (kind == 4) = false := by simpa using h4
  have k5 : (kind == 5) = false := by simpa using h5
  have k6 : (kind == 6) = false := by simpa using h6
  have k7 : (kind == 7) = false := by simpa using h7
  have k8 : (kind == 8) = false := by simpa using h8
  have k9 : (kind == 9) = false := by simpa using h9
  clear h1 h2 h3 h4 h5 h6 h7 h8 h9
  go_enter Try.func29, Try.ntmps29
  go_wp2
  refine bodyPost_ret (v := .tuple #[.agg #[.int .i64 t.blocks, .slice S 8 cs, .slice E 2 ce, .int .u64 t.counter, .slice L ll.length cl, .int .i64 t.reads, .bool t.armed, .int .i64 t.power, .bool t.dead, .slice T t.trace.length ct], .slice none 0 0, .bool false]) (by simp [results, Try.results29, go_sem]) rfl ⟨_, none, 0, rfl, ?_, SrcN.nil _ _, (((Evo.refl _ w).alloc _).alloc _).alloc _⟩
  exact (HX.out _ ((((Evo.refl _ w).alloc _).alloc _).alloc _)).more

end Go.Proofs.Ytnndkameadlkdaa
