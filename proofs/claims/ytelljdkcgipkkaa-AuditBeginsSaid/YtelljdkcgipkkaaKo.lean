/- The walk of the law's 'known'. -/
import Derived.Test.YtelljdkcgipkkaaKn
namespace Go.Proofs.Ytelljdkcgipkkaa
open Go.RowKit

set_option maxRecDepth 100000 in
set_option maxHeartbeats 400000 in
theorem same_true (w : World) (va vb : Value) (xs ys : List ItD) (ha : ItSrc w va xs) (hb : ItSrc w vb ys) (hx : xs.length ≤ 1000) (hl : ys.length = xs.length) (hm : minusL (xs.map ItD.key) (ys.map ItD.key) = []) :
    Calls Try.prog 9 #[va, vb] w fun e w' => e = .returned (.bool true) ∧ Evo (fun _ => False) w w' := by
  have hM := minus_walk w va vb xs ys ha hb hx (by omega)
  obtain ⟨A, ca, rfl, hca⟩ := ha.form
  obtain ⟨B, cb, rfl, hcb⟩ := hb.form
  rw [hl] at hM ⊢
  go_enter Try.func9, Try.ntmps9
  go_wp2_with fail
  refine hM.mono ?_
  rintro e w' ⟨v, zs, rfl, hev, hz, hk⟩
  rw [hm] at hk
  have hz0 : zs = [] := by
    cases zs with
    | nil => rfl
    | cons _ _ => cases hk
  subst hz0
  obtain ⟨Z, cz, rfl, _⟩ := hz.form
  go_wp2
  go_ret
  exact ⟨rfl, hev⟩

def ka : ItD := ⟨1, .slice none 0 0, []⟩
def kb : ItD := ⟨2, .slice none 0 0, []⟩
theorem known_minus : minusL ([ka, kb, ka].map ItD.key) ([ka].map ItD.key) = [(2, []), (1, [])] := by kernel_rfl
theorem known_same : minusL [(2, []), (1, [])] ([ka, kb].map ItD.key) = [] := by kernel_rfl

/-- A row of items laid by the call itself, none of which has bytes. -/
theorem it_laid (w : World) (xs : List ItD) (h : ∀ x ∈ xs, x.bv = .slice none 0 0 ∧ x.b = []) : ItSrc (w.alloc (.cells (xs.flatMap ItD.cells).toArray 26)) (.slice (some ⟨w.heap.size, 0, none⟩) xs.length xs.length) xs := by
  refine ⟨Src.laid w 26 _ xs.length 2 ?_, fun x hx => ?_⟩
  · induction xs with
    | nil => rfl
    | cons x xs ih => rw [List.flatMap_cons, List.length_append, ih (fun y hy => h y (List.mem_cons_of_mem _ hy)), List.length_cons, Nat.add_mul]; simp [ItD.cells]; omega
  · obtain ⟨e1, e2⟩ := h x hx
    rw [e1, e2]
    exact ⟨⟨none, 0, rfl, Nat.le_refl _, rfl, fun j u hu => (by cases hu)⟩, fun y hy => (by cases hy), by simp⟩

set_option maxRecDepth 100000 in
set_option maxHeartbeats 400000 in
theorem known_walk (w : World) : Calls Try.prog 5 #[] w fun e w' => e = .returned (.bool true) ∧ Evo (fun _ => False) w w' := by
  go_enter Try.func5, Try.ntmps5
  go_wp2_with fail
  obtain ⟨w1, hw1⟩ : ∃ x, x = w.alloc (.cells #[.int .i64 1, .slice none 0 0] 26) := ⟨_, rfl⟩
  obtain ⟨w2, hw2⟩ : ∃ x, x = w1.alloc (.cells #[.int .i64 2, .slice none 0 0] 26) := ⟨_, rfl⟩
  obtain ⟨w3, hw3⟩ : ∃ x, x = w2.alloc (.cells #[.int .i64 1, .slice none 0 0, .int .i64 2, .slice none 0 0, .int .i64 1, .slice none 0 0] 26) := ⟨_, rfl⟩
  obtain ⟨w4, hw4⟩ : ∃ x, x = w3.alloc (.cells #[.int .i64 1, .slice none 0 0] 26) := ⟨_, rfl⟩
  have z1 : w1.heap.size = w.heap.size + 1 := by rw [hw1]; simp
  have z2 : w2.heap.size = w.heap.size + 1 + 1 := by rw [hw2, World.size_alloc, z1]
  have z3 : w3.heap.size = w.heap.size + 1 + 1 + 1 := by rw [hw3, World.size_alloc, z2]
  have e1 : Evo (fun _ => False) w w1 := by rw [hw1]; exact (Evo.refl _ w).alloc _
  have e2 : Evo (fun _ => False) w1 w2 := by rw [hw2]; exact (Evo.refl _ w1).alloc _
  have e3 : Evo (fun _ => False) w2 w3 := by rw [hw3]; exact (Evo.refl _ w2).alloc _
  have e4 : Evo (fun _ => False) w3 w4 := by rw [hw4]; exact (Evo.refl _ w3).alloc _
  have a0 : w4.cell? ⟨w.heap.size, 0, none⟩ = some (.int .i64 1) ∧ w4.cell? ⟨w.heap.size, 1, none⟩ = some (.slice none 0 0) := by
    have h0 : ∀ i, w1.cell? ⟨w.heap.size, i, none⟩ = (#[.int .i64 1, .slice none 0 0] : Array Value)[i]? := fun i => by rw [hw1]; exact blk_cell (heap_alloc_new w _) i
    have he := e2.two (e3.two e4)
    exact ⟨(he.cell (by simp [z1]) (fun hf => hf)).trans (h0 0), (he.cell (by simp [z1]) (fun hf => hf)).trans (h0 1)⟩
  have b0 : w4.cell? ⟨w.heap.size + 1, 0, none⟩ = some (.int .i64 2) ∧ w4.cell? ⟨w.heap.size + 1, 1, none⟩ = some (.slice none 0 0) := by
    have h0 : ∀ i, w2.cell? ⟨w.heap.size + 1, i, none⟩ = (#[.int .i64 2, .slice none 0 0] : Array Value)[i]? := fun i => by rw [hw2, ← z1]; exact blk_cell (heap_alloc_new w1 _) i
    have he := e3.two e4
    exact ⟨(he.cell (by simp [z2]) (fun hf => hf)).trans (h0 0), (he.cell (by simp [z2]) (fun hf => hf)).trans (h0 1)⟩
  have i3 : ItSrc w4 (.slice (some ⟨w.heap.size + 1 + 1, 0, none⟩) 3 3) [ka, kb, ka] := by
    have := it_laid w2 [ka, kb, ka] (by intro x hx; simp [ka, kb] at hx; rcases hx with rfl | rfl | rfl <;> exact ⟨rfl, rfl⟩)
    rw [← z2]
    refine ItSrc.evo0 ?_ e4
    rw [hw3]
    exact this
  have i1 : ItSrc w4 (.slice (some ⟨w.heap.size + 1 + 1 + 1, 0, none⟩) 1 1) [ka] := by
    have := it_laid w3 [ka] (by intro x hx; simp [ka] at hx; subst hx; exact ⟨rfl, rfl⟩)
    rw [← z3, hw4]
    exact this
  have hM := minus_walk w4 _ _ _ _ i3 i1 (by decide) (by decide)
  rw [known_minus] at hM
  have hev4 := ((e1.two e2).two e3).two e4
  rw [← hw1, ← hw2, ← hw3, ← hw4]
  clear hw1 hw2 hw3 hw4 e1 e2 e3 e4 z1 z2 z3 i1 i3
  refine hM.mono ?_
  rintro e w5 ⟨v, zs, rfl, hev5, hz, hk⟩
  obtain ⟨x0, x1, rfl⟩ : ∃ x0 x1, zs = [x0, x1] := by
    have hlen : zs.length = 2 := by have := congrArg List.length hk; simpa using this
    match zs, hlen with
    | [x0, x1], _ => exact ⟨x0, x1, rfl⟩
  obtain ⟨Z, cz, rfl, hcz⟩ := hz.form
  obtain ⟨bz, oz, rfl, c0, _⟩ := hz.at (i := 0) (x := x0) rfl
  obtain ⟨bz', oz', e, c1, _⟩ := hz.at (i := 1) (x := x1) rfl
  cases e
  have hk0 : x0.at_ = 2 := by have := congrArg (fun l => (l.headD (0, [])).1) hk; simpa [ItD.key] using this
  have hk1 : x1.at_ = 1 := by have := congrArg (fun l => ((l.drop 1).headD (0, [])).1) hk; simpa [ItD.key] using this
  rw [hk0] at c0
  rw [hk1] at c1
  have d0 : w5.cell? ⟨bz, oz, none⟩ = some (.int .i64 2) := by simpa using c0
  have d1 : w5.cell? ⟨bz, oz + 2, none⟩ = some (.int .i64 1) := by simpa using c1
  have a5 := (hev5.cell (World.block_lt_of_cell? w4 _ a0.1) (fun hf => hf)).trans a0.1
  have a5' := (hev5.cell (World.block_lt_of_cell? w4 _ a0.2) (fun hf => hf)).trans a0.2
  have b5 := (hev5.cell (World.block_lt_of_cell? w4 _ b0.1) (fun hf => hf)).trans b0.1
  have b5' := (hev5.cell (World.block_lt_of_cell? w4 _ b0.2) (fun hf => hf)).trans b0.2
  have i2 : ItSrc (w5.alloc (.cells #[.int .i64 1, .slice none 0 0, .int .i64 2, .slice none 0 0] 26)) (.slice (some ⟨w5.heap.size, 0, none⟩) 2 2) [ka, kb] := it_laid w5 [ka, kb] (by intro x hx; simp [ka, kb] at hx; rcases hx with rfl | rfl <;> exact ⟨rfl, rfl⟩)
  have e6 : Evo (fun _ => False) w5 (w5.alloc (.cells #[.int .i64 1, .slice none 0 0, .int .i64 2, .slice none 0 0] 26)) := (Evo.refl _ w5).alloc _
  have hS := same_true _ _ _ _ _ (hz.evo0 e6) i2 (by simp) rfl (by rw [hk]; exact known_same)
  have hl2 : ([x0, x1] : List ItD).length = 2 := rfl
  rw [hl2] at hS
  rw [hl2]
  go_wp2_with fail
  refine hS.mono ?_
  rintro e w7 ⟨rfl, e7⟩
  go_wp2_with fail
  refine (straight_nil _).mono ?_
  rintro e w8 ⟨rfl, e8⟩
  go_wp2_with fail
  refine (epochs_nil _).mono ?_
  rintro e w9 ⟨A9, c9, rfl, e9⟩
  go_wp2
  go_ret
  exact ⟨rfl, ((((hev4.two hev5).two e6).two e7).two e8).two e9⟩

end Go.Proofs.Ytelljdkcgipkkaa
