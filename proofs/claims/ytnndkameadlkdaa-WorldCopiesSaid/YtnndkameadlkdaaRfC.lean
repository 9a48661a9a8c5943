/- The walks of the reference's note, told, over, with, Pad. -/
import Derived.Test.YtnndkameadlkdaaRfB
namespace Go.Proofs.Ytnndkameadlkdaa
open Go.RowKit

theorem tcells_size (t : WS) (a b c d : Value) : (tcells t a b c d).size = 10 := rfl
theorem tcells_one (t : WS) (S E L T : Option Addr) (ns cs ne ce nl cl nt ct : Nat) : (tcells t (.slice S ns cs) (.slice E ne ce) (.slice L nl cl) (.slice T nt ct)).all (·.oneCell') = true := by
  simp [tcells, Value.oneCell']
theorem Try.info22 : (Try.prog.info? 22).map (fun i => (i.zero, i.size, i.bytes)) = some (some (.slice none 0 0), 1, 24) := by kernel_rfl

def z56 : Array Value := #[.int .i64 0, .slice none 0 0, .slice none 0 0, .int .u64 0, .slice none 0 0, .int .i64 0, .bool false, .int .i64 0, .bool false, .slice none 0 0]

theorem tr_src_one {w : World} {ts : List Tr} {us : List Value} (h3 : ∀ (i : Nat) (x : Tr) (u : Value), ts[i]? = some x → us[i]? = some u → Src w 1 u x.bytes.length (bys x.bytes)) : ∀ u ∈ trCells ts us, u.oneCell' = true := by
  intro u hu
  simp only [trCells, List.mem_flatMap] at hu
  obtain ⟨⟨x, y⟩, hxy, hu⟩ := hu
  obtain ⟨i, hi, hxi⟩ := List.mem_iff_getElem.1 hxy
  have hi' : i < ts.length := by simp at hi; omega
  have hib : i < us.length := by simp at hi; omega
  simp only [List.getElem_zip, Prod.mk.injEq] at hxi
  obtain ⟨A, c, e, _⟩ := h3 i x y (by rw [← hxi.1]; exact List.getElem?_eq_getElem hi') (by rw [← hxi.2]; exact List.getElem?_eq_getElem hib)
  simp only [List.mem_cons, List.not_mem_nil, or_false] at hu
  rcases hu with rfl | rfl | rfl | rfl
  · rfl
  · rfl
  · rfl
  · rw [e]; rfl

section
variable (N : Nat → Prop) (w : World) (t : WS) (S E L T : Option Addr) (ns cs ne ce nl cl ct : Nat)

set_option maxRecDepth 100000 in
set_option maxHeartbeats 1000000 in
theorem rnote_walk (hN : ∀ k, N k → k < w.heap.size) (hT : TrN N w (.slice T t.trace.length ct) t.trace) (hlen : t.trace.length ≤ 900000) (kd a s : Int) (bv : Value) (l : List Int) (hs : SrcN N w 1 bv l.length (bys l)) :
    Calls Try.prog 51 #[.agg (tcells t (.slice S ns cs) (.slice E ne ce) (.slice L nl cl) (.slice T t.trace.length ct)), .int .i64 kd, .int .i64 a, .int .i64 s, bv] w fun e w' =>
      ∃ T' ct', e = .returned (.agg (tcells (t.note kd a s l) (.slice S ns cs) (.slice E ne ce) (.slice L nl cl) (.slice T' (t.note kd a s l).trace.length ct'))) ∧
        TrN N w' (.slice T' (t.note kd a s l).trace.length ct') (t.note kd a s l).trace ∧ (∀ ad, T' = some ad → w.heap.size ≤ ad.block ∧ KindN N w' 52 ad.block) ∧ Evo (fun _ => False) w w' := by
  obtain ⟨i52, hi52, hz52, hs52, hb52⟩ := info_parts Try.info52
  obtain ⟨B, cb, rfl, hcb⟩ : ∃ A c, bv = .slice A l.length c ∧ l.length ≤ c := by obtain ⟨A, c, e, h, _⟩ := hs.1; exact ⟨A, c, e, h⟩
  have hnl : (t.note kd a s l).trace.length = t.trace.length + 1 := by simp [WS.note]
  have hnt : (t.note kd a s l).trace = t.trace ++ [⟨kd, a, s, l⟩] := rfl
  have hnc : ∀ v1 v2 v3 v4, tcells (t.note kd a s l) v1 v2 v3 v4 = tcells t v1 v2 v3 v4 := fun _ _ _ _ => rfl
  rw [hnl, hnt]
  simp only [hnc]
  obtain ⟨CS, hCS⟩ : ∃ C, C = tcells t (.slice S ns cs) (.slice E ne ce) (.slice L nl cl) (.slice T t.trace.length ct) := ⟨_, rfl⟩
  obtain ⟨W1, hW1⟩ : ∃ W, W = (w.alloc (.cells CS 56)).alloc (.cells z56 56) := ⟨_, rfl⟩
  have e01 : Evo (fun _ => False) w W1 := by rw [hW1]; exact ((Evo.refl _ w).alloc _).alloc _
  have z1 : W1.heap.size = w.heap.size + 1 + 1 := by rw [hW1]; simp
  have b1 : W1.heap[w.heap.size]? = some (.cells CS 56 (0, 0)) := by rw [hW1, Below.heap_alloc _ _ _ (by simp)]; exact heap_alloc_new _ _
  have b2 : W1.heap[w.heap.size + 1]? = some (.cells z56 56 (0, 0)) := by
    have := heap_alloc_new (w.alloc (.cells CS 56)) (.cells z56 56)
    rw [World.size_alloc] at this
    rw [hW1]
    exact this
  obtain ⟨us, hul, hsr0, hus0⟩ := hT
  have hsr := hsr0.1.evo e01 (fun _ _ _ hf => hf)
  have hus : ∀ (i : Nat) (x : Tr) (u : Value), t.trace[i]? = some x → us[i]? = some u → Src W1 1 u x.bytes.length (bys x.bytes) := fun i x u hx hu => (hus0 i x u hx hu).1.evo e01 (fun _ _ _ hf => hf)
  obtain ⟨A1, c1, w2, hr1, ho1, hg1⟩ := run_append_fresh (P := Try.prog) W1 48 48 52 i52 _ 4 48 Try.underlying48 hi52 hz52 hs52 hb52 rfl (by omega) _ t.trace.length _ hsr (tr_src_one hus) (by simp only [maxLen]; omega) (by omega)
  have e12 : Evo (fun _ => False) W1 w2 := (Evo.refl _ W1).grown hg1 (fun _ hf => by cases hf)
  obtain ⟨W3, hW3⟩ : ∃ W, W = w2.alloc (.cells #[.int .i64 kd, .int .i64 a, .int .i64 s, .slice B l.length cb] 52) := ⟨_, rfl⟩
  have e23 : Evo (fun _ => False) w2 W3 := by rw [hW3]; exact (Evo.refl _ w2).alloc _
  obtain ⟨v4, w4, hr2, ho2, hg2, _⟩ := run_append_src (P := Try.prog) W3 W1.heap.size 48 48 52 i52 _ 4 48 Try.underlying48 hi52 hz52 hs52 hb52 rfl (by omega) (.slice A1 t.trace.length c1) t.trace.length _ (by rw [hW3]; exact ho1.alloc _) (.slice (some ⟨w2.heap.size, 0, none⟩) 1 1) 1 [.int .i64 kd, .int .i64 a, .int .i64 s, .slice B l.length cb]
    (by rw [hW3]; exact Src.laid _ _ _ _ _ rfl) (by simp [Value.oneCell']) (by simp only [maxLen]; omega) (by omega) (by have := e12.size; have := e23.size; omega)
  have e34 : Evo (fun k => W1.heap.size ≤ k) W3 w4 := (Evo.refl _ W3).grown hg2 (fun g hg => .inl (ho1.lt g hg).1)
  have e14 : Evo (fun _ => False) W1 w4 := (e12.two e23).trans e34 (fun k hk => .inr hk)
  obtain ⟨A4, c4, rfl, _⟩ := ownsRow_slice ho2
  have d1 : w4.heap[w.heap.size]? = some (.cells CS 56 (0, 0)) := (e14.block _ (by omega) (fun hf => hf)).trans b1
  have d2 : w4.heap[w.heap.size + 1]? = some (.cells z56 56 (0, 0)) := (e14.block _ (by omega) (fun hf => hf)).trans b2
  have k9 : W1.cell? ⟨w.heap.size, 9, none⟩ = some (.slice T t.trace.length ct) := by rw [blk_cell b1 9, hCS]; rfl
  have q9 : w4.cell? ⟨w.heap.size, 9, none⟩ = some (.slice T t.trace.length ct) := by rw [blk_cell d1 9, hCS]; rfl
  have f9 : w4.frozen? ⟨w.heap.size, 9, none⟩ = false := blk_frozen d1 9
  have d1' := blk_set d1 9 (.slice A4 (t.trace.length + 1) c4)
  have hC2 : CS.setIfInBounds 9 (.slice A4 (t.trace.length + 1) c4) = tcells t (.slice S ns cs) (.slice E ne ce) (.slice L nl cl) (.slice A4 (t.trace.length + 1) c4) := by rw [hCS]; rfl
  rw [hC2] at d1'
  have e45 : Evo (fun k => k = w.heap.size) w4 (w4.setCell ⟨w.heap.size, 9, none⟩ (.slice A4 (t.trace.length + 1) c4)) := (Evo.refl (fun k => k = w.heap.size) w4).setCell (p := ⟨w.heap.size, 9, none⟩) (.inl rfl) _
  have d2' := (e45.block _ (heap_lt d2) (fun e => by have e : w.heap.size + 1 = w.heap.size := e; omega)).trans d2
  have hld := load56 _ _ _ d1' rfl
  obtain ⟨w6, hst, d3, e56⟩ := store56 _ _ _ _ d2' rfl (tcells_size t (.slice S ns cs) (.slice E ne ce) (.slice L nl cl) (.slice A4 (t.trace.length + 1) c4)) (tcells_one ..)
  have hres := blk_cell d3
  have e16 : Evo (fun _ => False) w w6 := ((e01.two e14).trans e45 (fun k hk => .inr (by have : k = w.heap.size := hk; omega))).trans e56 (fun k hk => .inr (by have : k = w.heap.size + 1 := hk; omega))
  have e46 : ∀ k, k ≠ w.heap.size → k ≠ w.heap.size + 1 → k < w4.heap.size → w6.heap[k]? = w4.heap[k]? := fun k h1 h2 h3 => (e56.block k (Nat.lt_of_lt_of_le h3 e45.size) h2).trans (e45.block k h3 h1)
  have hT6 : TrN N w6 (.slice A4 (t.trace.length + 1) c4) (t.trace ++ [⟨kd, a, s, l⟩]) := by
    refine ⟨us ++ [.slice B l.length cb], by simp [hul], ?_, ?_⟩
    · have hsrc := Src.of_own ho2
      rw [trCells_snoc _ _ hul]
      rw [show (t.trace ++ [(⟨kd, a, s, l⟩ : Tr)]).length = t.trace.length + 1 by simp]
      refine ⟨hsrc.kept (fun ad e => ?_), fun _ ad c e hf => ?_⟩
      · cases e
        have := ho2.lt ad.block rfl
        exact e46 _ (by omega) (by omega) this.2
      · cases e
        have := (ho2.lt ad.block rfl).1
        have := hN _ hf
        omega
    · intro i x u hx hu
      have base : ∀ {v : Value} {m : List Int}, SrcN N w 1 v m.length (bys m) → SrcN N w6 1 v m.length (bys m) := fun h => h.evo0 e16
      rcases Nat.lt_trichotomy i t.trace.length with hi | hi | hi
      · rw [List.getElem?_append_left hi] at hx
        rw [List.getElem?_append_left (by omega)] at hu
        exact base (hus0 i x u hx hu)
      · subst hi
        rw [List.getElem?_append_right (by omega)] at hx hu
        rw [hul] at hu
        simp at hx hu
        subst hx hu
        exact base hs
      · rw [List.getElem?_append_right (by omega)] at hx
        have : i - t.trace.length ≠ 0 := by omega
        simp [this] at hx
  rw [hW1, hCS] at hr1
  rw [hW3] at hr2
  unfold tcells z56 at hr1
  unfold tcells at hld hst hres
  have hfr : ∀ ad, A4 = some ad → w.heap.size ≤ ad.block ∧ KindN N w6 52 ad.block := fun ad e => by
    have h1 := ho2.lt ad.block (by rw [e]; rfl)
    obtain ⟨cc, ff, hcc⟩ := ownsRow_kind ho2 ad.block (by rw [e]; rfl)
    exact ⟨by omega, ⟨cc, ff, (e46 _ (by omega) (by omega) h1.2).trans hcc⟩, fun hf => by have := hN _ hf; omega⟩
  have Hfr := Lib.hid hfr
  clear hfr
  have HT := Lib.hid hT6
  have Hr1 := Lib.hid hr1
  have Hr2 := Lib.hid hr2
  have Hld := Lib.hid hld
  have Hst := Lib.hid hst
  have Hres := Lib.hid hres
  have HW3 := Lib.hid hW3
  clear hr1 hr2 hld hst hres hT6 e46 d1' d2' d3 e45 e56 d1 d2 b1 b2 ho1 ho2 hg1 hg2 e12 e23 e34 e14 hnl hnt hnc hW3 hC2 hus hsr hus0 hsr0 hs
  have HE := Lib.hid e16
  clear e16 hW1 hCS e01
  unfold tcells
  go_enter Try.func51, Try.ntmps51
  have tok1 : True := trivial
  go_wp2_with (first | (at_builtin; have _t := tok1; refine wpList_run rfl (run_op_append rfl Hr1.out) ?_; clear _t tok1) | (at_builtin; refine wpList_run rfl (run_op_append rfl Hr2.out) ?_) | (refine wpList_run rfl (run_op_load rfl Hld.out) ?_) | (refine wpList_void rfl (run_op_store rfl Hst.out) ?_))
  refine bodyPost_ret (v := .agg #[.int .i64 t.blocks, .slice S ns cs, .slice E ne ce, .int .u64 t.counter, .slice L nl cl, .int .i64 t.reads, .bool t.armed, .int .i64 t.power, .bool t.dead, .slice A4 (t.trace.length + 1) c4]) (by simp [results, Try.results51, go_sem, Hres.out]) rfl ⟨_, _, rfl, HT.out, Hfr.out, HE.out⟩

set_option maxRecDepth 100000 in
set_option maxHeartbeats 1000000 in
theorem rtold_walk (w0 : World) (he0 : Evo (fun _ => False) w0 w) (nt : Nat) (ll : List (Int × List Int)) (hL : LieOf N w0 (.slice L ll.length cl) ll) (hlen : ll.length ≤ 900000) (h0 : 0 ≤ t.reads) (h1 : t.reads ≤ 950000) (bv : Value) (l : List Int) (hs : SrcN N w0 1 bv l.length (bys l)) :
    Calls Try.prog 50 #[.agg (tcells t (.slice S ns cs) (.slice E ne ce) (.slice L ll.length cl) (.slice T nt ct)), bv] w fun e w' =>
      ∃ B d, e = .returned (.tuple #[.agg (tcells t.count (.slice S ns cs) (.slice E ne ce) (.slice L ll.length cl) (.slice T nt ct)), .slice B ((lastLie ll t.reads).getD l).length d]) ∧
        SrcN N w0 1 (.slice B ((lastLie ll t.reads).getD l).length d) ((lastLie ll t.reads).getD l).length (bys ((lastLie ll t.reads).getD l)) ∧ Evo (fun _ => False) w w' := by
  obtain ⟨B, cb, rfl, hcb⟩ : ∃ A c, bv = .slice A l.length c ∧ l.length ≤ c := by obtain ⟨A, c, e, h, _⟩ := hs.1; exact ⟨A, c, e, h⟩
  have hCd : tcells t.count (.slice S ns cs) (.slice E ne ce) (.slice L ll.length cl) (.slice T nt ct) = (tcells t (.slice S ns cs) (.slice E ne ce) (.slice L ll.length cl) (.slice T nt ct)).setIfInBounds 5 (.int .i64 (t.reads + 1)) := rfl
  obtain ⟨hlc, _⟩ : ll.length ≤ cl ∧ True := by obtain ⟨us, _, ⟨⟨A, c, e, h, _⟩, _⟩, _⟩ := hL; cases e; exact ⟨h, trivial⟩
  have HCd := Lib.hid hCd
  clear hCd
  rw [HCd.out]
  unfold tcells
  go_enter Try.func50, Try.ntmps50
  go_wp2
  go_loopg [1, 6] ll.length (fun g u j wx => ∃ k : Nat, k ≤ ll.length ∧ g = ll.length - k ∧ j = .int .i64 k ∧ ∃ (A : Option Addr) (d : Nat) (m : List Int), u = .slice A m.length d ∧ SrcN N w0 1 (.slice A m.length d) m.length (bys m) ∧ m = (lastLie (ll.take k) t.reads).getD l ∧ Evo (fun _ => False) w wx ∧
    wx.heap[w.heap.size]? = some (.cells (tcells t (.slice S ns cs) (.slice E ne ce) (.slice L ll.length cl) (.slice T nt ct)) 56 (0, 0)) ∧ wx.heap[w.heap.size + 1]? = some (.cells z56 56 (0, 0)))
  case atStart =>
    refine ⟨0, by omega, rfl, rfl, B, cb, l, rfl, hs, rfl, ((Evo.refl _ w).alloc _).alloc _, ?_, ?_⟩
    · rw [Below.heap_alloc _ _ _ (by simp)]; exact heap_alloc_new _ _
    · have := heap_alloc_new (w.alloc (.cells (tcells t (.slice S ns cs) (.slice E ne ce) (.slice L ll.length cl) (.slice T nt ct)) 56)) (.cells z56 56)
      rw [World.size_alloc] at this
      exact this
  case round =>
    obtain ⟨k, hk, rfl, rfl, A, d, m, rfl, hsm, hm, hev, b1, b2⟩ := hrel
    have Hm := Lib.hid hm
    clear hm
    have k4 : wr.cell? ⟨w.heap.size, 4, none⟩ = some (.slice L ll.length cl) := blk_cell b1 4
    have k5 : wr.cell? ⟨w.heap.size, 5, none⟩ = some (.int .i64 t.reads) := blk_cell b1 5
    by_cases hkl : k < ll.length
    · have hkz : (k : Int) < (ll.length : Int) := by omega
      obtain ⟨x, hx⟩ : ∃ x, ll[k]? = some x := ⟨_, List.getElem?_eq_getElem hkl⟩
      obtain ⟨pb, po, PB, pd, rfl, _, hnc, c0, c1, hsx⟩ := (hL.evo0 (he0.two hev)).at hx
      have hsx0 : SrcN N w0 1 (.slice PB x.2.length pd) x.2.length (bys x.2) := by
        obtain ⟨pb', po', PB', pd', e, _, _, _, c1', h'⟩ := hL.at hx
        cases e
        have := ((he0.two hev).cell (World.block_lt_of_cell? _ _ c1') (fun hf => hf)).trans c1'
        rw [c1] at this
        cases this
        exact h'
      have htk : ll.take (k + 1) = ll.take k ++ [x] := by rw [List.take_succ_eq_append_getElem hkl, (List.getElem?_eq_some_iff.1 hx).2]
      have Hl : Hid (lastLie (ll.take (k + 1)) t.reads = if t.reads = x.1 then some x.2 else lastLie (ll.take k) t.reads) := by
        show _ = _
        rw [htk, show [x] = [(x.1, x.2)] from rfl, lastLie_snoc]
      have Hx := Lib.hid hx
      clear hx htk hsx
      by_cases hxe : x.1 = t.reads
      · have hxb : (x.1 == t.reads) = true := by simpa using hxe
        have Hxe := Lib.hid hxe
        clear hxe
        go_wp2_with fail
        refine wp_region_seq (fun w' => w' = wr.drew) [0, 1, 2, 3, 4, 5, 6, 7, 8] [0, 1, 2, 3, 4, 5, 6, 7, 8] (by kernel_rfl) (by kernel_rfl) (by rfl) (by kernel_rfl) (fun _ _ _ _ _ h => h) (rfl) ?_
        repeat
          apply seq_read (by rfl)
          · (simp only [List.getElem?_toArray, List.getElem?_cons_succ, List.getElem?_cons_zero]; rfl)
          · rfl
          · (intro w' hSw; (first | subst hSw | (try dsimp only at hSw)); go_simp; (try go_bits); (try with_reducible rfl))
          simp only [Act.put, List.setIfInBounds_toArray, List.set_cons_zero, List.set_cons_succ]
        refine seq_nil ?_
        go_wp2
        go_roundg (ll.length - (k + 1))
        case measure => omega
        case rel => exact ⟨k + 1, by omega, rfl, by first | rfl | simp, PB, pd, x.2, rfl, hsx0, by rw [Hl.out, if_pos Hxe.out.symm]; rfl, hev.drew, b1, b2⟩
      · have hxb : (x.1 == t.reads) = false := by simpa using hxe
        have Hxe := Lib.hid hxe
        clear hxe
        go_wp2_with fail
        refine wp_region_seq (fun w' => w' = wr.drew) [0, 1, 2, 3, 4, 5, 6, 7, 8] [0, 1, 2, 3, 4, 5, 6, 7, 8] (by kernel_rfl) (by kernel_rfl) (by rfl) (by kernel_rfl) (fun _ _ _ _ _ h => h) (rfl) ?_
        repeat
          apply seq_read (by rfl)
          · (simp only [List.getElem?_toArray, List.getElem?_cons_succ, List.getElem?_cons_zero]; rfl)
          · rfl
          · (intro w' hSw; (first | subst hSw | (try dsimp only at hSw)); go_simp; (try go_bits); (try with_reducible rfl))
          simp only [Act.put, List.setIfInBounds_toArray, List.set_cons_zero, List.set_cons_succ]
        refine seq_nil ?_
        go_wp2
        go_roundg (ll.length - (k + 1))
        case measure => omega
        case rel => exact ⟨k + 1, by omega, rfl, by first | rfl | simp, A, d, m, rfl, hsm, by rw [Hl.out, if_neg (fun e => Hxe.out e.symm)]; exact Hm.out, hev.drew, b1, b2⟩
    · obtain rfl : k = ll.length := by omega
      have hm := Hm.out
      rw [List.take_length] at hm
      have f5 : wr.frozen? ⟨w.heap.size, 5, none⟩ = false := blk_frozen b1 5
      have b1' := blk_set b1 5 (.int .i64 (t.reads + 1))
      have e45 : Evo (fun k => k = w.heap.size) wr (wr.setCell ⟨w.heap.size, 5, none⟩ (.int .i64 (t.reads + 1))) := (Evo.refl (fun k => k = w.heap.size) wr).setCell (p := ⟨w.heap.size, 5, none⟩) (.inl rfl) _
      have b2' := (e45.block _ (heap_lt b2) (fun e => by have e : w.heap.size + 1 = w.heap.size := e; omega)).trans b2
      have hld := load56 _ _ _ b1' rfl
      obtain ⟨w6, hst, d3, e56⟩ := store56 _ _ _ ((tcells t (.slice S ns cs) (.slice E ne ce) (.slice L ll.length cl) (.slice T nt ct)).setIfInBounds 5 (.int .i64 (t.reads + 1))) b2' rfl rfl (by rw [← HCd.out]; exact tcells_one ..)
      have hres := blk_cell d3
      have e16 : Evo (fun _ => False) w w6 := (hev.trans e45 (fun k hk => .inr (by have : k = w.heap.size := hk; omega))).trans e56 (fun k hk => .inr (by have : k = w.heap.size + 1 := hk; omega))
      have hsf : SrcN N w0 1 (.slice A m.length d) m.length (bys m) := hsm
      rw [hm] at hsf
      have HSF := Lib.hid hsf
      have HM := Lib.hid hm
      have HE := Lib.hid e16
      have Hld := Lib.hid hld
      have Hst := Lib.hid hst
      have Hres := Lib.hid hres
      clear hsf hm e16 hld hst hres Hm d3 e45 e56 b1' b2' b1 b2 hsm
      go_wp2_with (first | (refine wpList_run rfl (run_op_load rfl Hld.out) ?_) | (refine wpList_void rfl (run_op_store rfl Hst.out) ?_))
      refine bodyPost_ret (v := .tuple #[.agg #[.int .i64 t.blocks, .slice S ns cs, .slice E ne ce, .int .u64 t.counter, .slice L ll.length cl, .int .i64 (t.reads + 1), .bool t.armed, .int .i64 t.power, .bool t.dead, .slice T nt ct], .slice A m.length d]) (by simp [results, Try.results50, go_sem, Hres.out, tcells]) rfl ⟨A, d, by rw [HM.out]; rfl, HSF.out, HE.out⟩
end

end Go.Proofs.Ytnndkameadlkdaa
