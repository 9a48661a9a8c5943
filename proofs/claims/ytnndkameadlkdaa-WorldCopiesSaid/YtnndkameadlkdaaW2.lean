/- The walks of package world's slot, said of its map. -/
import Derived.Test.YtnndkameadlkdaaKey
import Derived.Test.YtnndkameadlkdaaGenE
import Derived.Test.YtnndkameadlkdaaW1
import Derived.Lib.Hide
namespace Go.Proofs.Ytnndkameadlkdaa
open Go.RowKit

def zeros272 : List Int := List.replicate 272 0
def Z96 : Array Value := (bys zeros272).toArray
theorem run_alloc96 (w : World) : (Instr.alloc 96 true (.tuple #[])).run Try.prog w = .ok (.pointer (some ⟨w.heap.size, 0, none⟩)) (w.alloc (.cells Z96 96)) := by kernel_rfl
theorem zero77 (w : World) : (zeroValue 77).run Try.prog w = .ok (.pointer none) w := by kernel_rfl
theorem zero22 (w : World) : (zeroValue 22).run Try.prog w = .ok (.slice none 0 0) w := by kernel_rfl

theorem cell?_putObj {w : World} {b : Nat} {es : Array MapEntry} {cl : Nat} (hb : w.heap[b]? = some (.map es cl)) {o : Obj} (ho : ∃ es' cl', o = .map es' cl') (a : Addr) : (putObj w b o).cell? a = w.cell? a := by
  obtain ⟨es', cl', rfl⟩ := ho
  by_cases h : a.block = b
  · subst h
    have h2 : (putObj w a.block (.map es' cl')).heap[a.block]? = some (.map es' cl') := by rw [putObj_heap, if_pos ⟨rfl, heap_lt hb⟩]
    unfold World.cell?
    rw [h2, hb]
  · refine World.cell?_of_block ?_
    rw [putObj_heap, if_neg (fun e => h e.1)]

set_option maxRecDepth 100000 in
set_option maxHeartbeats 400000 in
theorem slot_old (b ms g : Nat) (a s : Int) (M : Value → Option Value) (w : World) (h1 : w.cell? ⟨b, 1, none⟩ = some (.map (some ms))) (hM : IsMap w ms PlaceKey M) (hg : M (plk a s) = some (.pointer (some ⟨g, 0, none⟩))) :
    Calls Try.prog 36 #[wp0 b, .int .i64 a, .int .i64 s] w fun e w' => e = .returned (.pointer (some ⟨g, 0, none⟩)) ∧ (w.alloc (.cells #[.int .i64 a, .int .i64 s] 95)).drew.drew = w' := by
  have hl : ∀ n : Nat, (Instr.lookup 64 (.map (some ms)) (.agg #[.int .i64 a, .int .i64 s]) false).run Try.prog ((w.alloc (.cells #[.int .i64 a, .int .i64 s] 95)).drewN n) = .ok (.pointer (some ⟨g, 0, none⟩)) ((w.alloc (.cells #[.int .i64 a, .int .i64 s] 95)).drewN n) := by
    intro n
    have := IsMap.look (P := Try.prog) (w := (w.alloc (.cells #[.int .i64 a, .int .i64 s] 95)).drewN n) ((hM.alloc (.cells #[.int .i64 a, .int .i64 s] 95))) keyRun_place Try.underlying64 (zero77 _) ⟨a, s, rfl⟩ false
    rw [hg] at this
    exact this
  have hc := (World.cell?_alloc_lt w (.cells #[.int .i64 a, .int .i64 s] 95) ⟨b, 1, none⟩ (World.block_lt_of_cell? w _ h1)).trans h1
  have p0 : (w.alloc (.cells #[.int .i64 a, .int .i64 s] 95)).cell? ⟨w.heap.size, 0, none⟩ = some (.int .i64 a) := by rw [cell_of_row _ _ 0 _ _ _ (heap_alloc_new w _)]; rfl
  have p1 : (w.alloc (.cells #[.int .i64 a, .int .i64 s] 95)).cell? ⟨w.heap.size, 1, none⟩ = some (.int .i64 s) := by rw [cell_of_row _ _ 1 _ _ _ (heap_alloc_new w _)]; rfl
  have HL := Lib.hid hl
  clear hl
  go_enter Try.func36, Try.ntmps36
  go_wp2
  generalize hW : w.alloc (.cells #[.int .i64 a, .int .i64 s] 95) = W at *
  have HW := Lib.hid hW
  clear hW
  refine wp_region_seq (fun w' => w' = W.drew) [0, 1, 2, 3, 4, 5, 6] [0, 1, 2, 3, 4, 5, 6] (by kernel_rfl) (by kernel_rfl) (by rfl) (by kernel_rfl) (fun _ _ _ _ _ h => h) (rfl) ?_
  repeat
    apply seq_read (by rfl)
    · (simp only [List.getElem?_toArray, List.getElem?_cons_succ, List.getElem?_cons_zero]; rfl)
    · rfl
    · (intro w' hSw; (first | subst hSw | (try dsimp only at hSw)); go_simp; (try go_bits); (try with_reducible rfl))
    simp only [Act.put, List.setIfInBounds_toArray, List.set_cons_zero, List.set_cons_succ]
  apply seq_read (by rfl)
  · (simp only [List.getElem?_toArray, List.getElem?_cons_succ, List.getElem?_cons_zero]; rfl)
  · rfl
  · (intro w' hSw; subst hSw; exact run_op_lookup rfl (HL.out 1))
  simp only [Act.put, List.setIfInBounds_toArray, List.set_cons_zero, List.set_cons_succ]
  repeat
    apply seq_read (by rfl)
    · (simp only [List.getElem?_toArray, List.getElem?_cons_succ, List.getElem?_cons_zero]; rfl)
    · rfl
    · (intro w' hSw; (first | subst hSw | (try dsimp only at hSw)); go_simp; (try go_bits); (try with_reducible rfl))
    simp only [Act.put, List.setIfInBounds_toArray, List.set_cons_zero, List.set_cons_succ]
  refine seq_nil ?_
  go_wp2
  refine wp_region_seq (fun w' => w' = W.drew.drew) [0, 1, 2, 3, 4, 5, 6] [0, 1, 2, 3, 4, 5, 6] (by kernel_rfl) (by kernel_rfl) (by rfl) (by kernel_rfl) (fun _ _ _ _ _ h => h) (rfl) ?_
  repeat
    apply seq_read (by rfl)
    · (simp only [List.getElem?_toArray, List.getElem?_cons_succ, List.getElem?_cons_zero]; rfl)
    · rfl
    · (intro w' hSw; (first | subst hSw | (try dsimp only at hSw)); go_simp; (try go_bits); (try with_reducible rfl))
    simp only [Act.put, List.setIfInBounds_toArray, List.set_cons_zero, List.set_cons_succ]
  apply seq_read (by rfl)
  · (simp only [List.getElem?_toArray, List.getElem?_cons_succ, List.getElem?_cons_zero]; rfl)
  · rfl
  · (intro w' hSw; subst hSw; exact run_op_lookup rfl (HL.out 2))
  simp only [Act.put, List.setIfInBounds_toArray, List.set_cons_zero, List.set_cons_succ]
  repeat
    apply seq_read (by rfl)
    · (simp only [List.getElem?_toArray, List.getElem?_cons_succ, List.getElem?_cons_zero]; rfl)
    · rfl
    · (intro w' hSw; (first | subst hSw | (try dsimp only at hSw)); go_simp; (try go_bits); (try with_reducible rfl))
    simp only [Act.put, List.setIfInBounds_toArray, List.set_cons_zero, List.set_cons_succ]
  refine seq_nil ?_
  go_wp2
  go_ret
  rw [HW.out]
  exact ⟨rfl, rfl⟩

set_option maxRecDepth 100000 in
set_option maxHeartbeats 400000 in
theorem slot_new (b ms : Nat) (a s : Int) (M : Value → Option Value) (w : World) (h1 : w.cell? ⟨b, 1, none⟩ = some (.map (some ms))) (hM : IsMap w ms PlaceKey M) (hg : M (plk a s) = none) :
    Calls Try.prog 36 #[wp0 b, .int .i64 a, .int .i64 s] w fun e w' => e = .returned (.pointer (some ⟨w.heap.size + 1, 0, none⟩)) ∧
      IsMap w' ms PlaceKey (upd M (plk a s) (.pointer (some ⟨w.heap.size + 1, 0, none⟩))) ∧ w'.heap[w.heap.size + 1]? = some (.cells Z96 96 (0, 0)) ∧ w.grownBy w' (some ms) := by
  obtain ⟨W, HW⟩ : ∃ W, Hid (w.alloc (.cells #[.int .i64 a, .int .i64 s] 95) = W) := ⟨_, rfl⟩
  have hsz : W.heap.size = w.heap.size + 1 := by rw [← HW.out]; simp
  have hMW : IsMap W ms PlaceKey M := by rw [← HW.out]; exact hM.alloc _
  have hc : W.cell? ⟨b, 1, none⟩ = some (.map (some ms)) := by rw [← HW.out]; exact (World.cell?_alloc_lt w (.cells #[.int .i64 a, .int .i64 s] 95) ⟨b, 1, none⟩ (World.block_lt_of_cell? w _ h1)).trans h1
  have p0 : W.cell? ⟨w.heap.size, 0, none⟩ = some (.int .i64 a) := by rw [← HW.out, cell_of_row _ _ 0 _ _ _ (heap_alloc_new w _)]; rfl
  have p1 : W.cell? ⟨w.heap.size, 1, none⟩ = some (.int .i64 s) := by rw [← HW.out, cell_of_row _ _ 1 _ _ _ (heap_alloc_new w _)]; rfl
  have hl1 := IsMap.look (P := Try.prog) (w := W.drew) hMW keyRun_place Try.underlying64 (zero77 _) ⟨a, s, rfl⟩ false
  rw [hg] at hl1
  obtain ⟨W2, HW2⟩ : ∃ W2, Hid (W.drew.drew.alloc (.cells Z96 96) = W2) := ⟨_, rfl⟩
  have hsz2 : W2.heap.size = w.heap.size + 2 := by rw [← HW2.out]; simp [hsz]
  have hal : (Instr.alloc 96 true (.tuple #[])).run Try.prog W.drew.drew = .ok (.pointer (some ⟨w.heap.size + 1, 0, none⟩)) W2 := by rw [← HW2.out, ← hsz]; exact run_alloc96 _
  have hMW2 : IsMap W2 ms PlaceKey M := by rw [← HW2.out]; exact IsMap.alloc (w := W.drew.drew) hMW _
  have hk2 : ∀ x v, W.cell? x = some v → W2.cell? x = some v := fun x v h => by rw [← HW2.out]; exact (World.cell?_alloc_lt W.drew.drew _ x (World.block_lt_of_cell? W x h)).trans h
  have hz2 : W2.heap[w.heap.size + 1]? = some (.cells Z96 96 (0, 0)) := by rw [← HW2.out, ← hsz]; exact heap_alloc_new W.drew.drew _
  obtain ⟨o, hup, hM3, ho⟩ := hMW2.store keyRun_place Try.underlying64 ⟨a, s, rfl⟩ (.pointer (some ⟨w.heap.size + 1, 0, none⟩))
  obtain ⟨W3, HW3⟩ : ∃ W3, Hid (putObj W2 ms o = W3) := ⟨_, rfl⟩
  rw [HW3.out] at hup hM3
  obtain ⟨es, cl, hes, _⟩ := hMW2
  have hk3 : ∀ x, W3.cell? x = W2.cell? x := fun x => by rw [← HW3.out]; exact cell?_putObj hes ho x
  have hl3 := IsMap.look (P := Try.prog) (w := W3.drew) hM3 keyRun_place Try.underlying64 (zero77 _) ⟨a, s, rfl⟩ false
  rw [upd_same] at hl3
  have hgr : w.grownBy W3 (some ms) := by
    have g1 : w.grownBy W2 (some ms) := by
      rw [← HW2.out, ← HW.out]
      exact (World.grownBy_alloc w _ _).trans ⟨rfl, rfl, rfl, by simp, fun k hk _ => Below.heap_alloc _ _ k hk⟩
    refine g1.trans ?_
    rw [← HW3.out]
    exact ⟨rfl, rfl, rfl, by rw [putObj_size]; exact Nat.le_refl _, fun k hk hne => by rw [putObj_heap, if_neg (fun e => hne (by rw [e.1]))]⟩
  have hz3 : W3.heap[w.heap.size + 1]? = some (.cells Z96 96 (0, 0)) := by
    rw [← HW3.out, putObj_heap, if_neg]
    · exact hz2
    · rintro ⟨e, _⟩
      rw [← e, hz2] at hes
      injection hes with hes
      cases hes
  have hc2 := hk2 _ _ hc
  have q0 := hk2 _ _ p0
  have q1 := hk2 _ _ p1
  have hc3 := (hk3 _).trans hc2
  have r0 := (hk3 _).trans q0
  have r1 := (hk3 _).trans q1
  have Hl1 := Lib.hid hl1
  have Hal := Lib.hid hal
  have Hup := Lib.hid hup
  have Hl3 := Lib.hid hl3
  clear hl1 hal hup hl3 hk2 hk3 hsz hsz2 hes
  go_enter Try.func36, Try.ntmps36
  go_wp2
  rw [HW.out]
  refine wp_region_seq (fun w' => w' = W.drew) [0, 1, 2, 3, 4, 5, 6] [0, 1, 2, 3, 4, 5, 6] (by kernel_rfl) (by kernel_rfl) (by rfl) (by kernel_rfl) (fun _ _ _ _ _ h => h) (rfl) ?_
  repeat
    apply seq_read (by rfl)
    · (simp only [List.getElem?_toArray, List.getElem?_cons_succ, List.getElem?_cons_zero]; rfl)
    · rfl
    · (intro w' hSw; (first | subst hSw | (try dsimp only at hSw)); go_simp; (try go_bits); (try with_reducible rfl))
    simp only [Act.put, List.setIfInBounds_toArray, List.set_cons_zero, List.set_cons_succ]
  apply seq_read (by rfl)
  · (simp only [List.getElem?_toArray, List.getElem?_cons_succ, List.getElem?_cons_zero]; rfl)
  · rfl
  · (intro w' hSw; subst hSw; exact run_op_lookup rfl Hl1.out)
  simp only [Act.put, List.setIfInBounds_toArray, List.set_cons_zero, List.set_cons_succ]
  repeat
    apply seq_read (by rfl)
    · (simp only [List.getElem?_toArray, List.getElem?_cons_succ, List.getElem?_cons_zero]; rfl)
    · rfl
    · (intro w' hSw; (first | subst hSw | (try dsimp only at hSw)); go_simp; (try go_bits); (try with_reducible rfl))
    simp only [Act.put, List.setIfInBounds_toArray, List.set_cons_zero, List.set_cons_succ]
  refine seq_nil ?_
  go_wp2
  refine wp_region_seq_drop (fun w' => w'.cell? ⟨b, 1, none⟩ = some (.map (some ms)) ∧ w'.cell? ⟨w.heap.size, 0, none⟩ = some (.int .i64 a) ∧ w'.cell? ⟨w.heap.size, 1, none⟩ = some (.int .i64 s)) [0, 1, 2, 3, 4] [0, 1, 2, 3, 4, 5] 6 (by kernel_rfl) rfl (by kernel_rfl) (by kernel_rfl) (by kernel_rfl) rfl (by kernel_rfl) (fun _ _ _ _ _ h => h) (⟨hc, p0, p1⟩) ?_
  dsimp only [List.dropLast]
  repeat
    apply seq_read (by rfl)
    · (simp only [List.getElem?_toArray, List.getElem?_cons_succ, List.getElem?_cons_zero]; rfl)
    · rfl
    · (intro w' hSw; (first | subst hSw | (try dsimp only at hSw)); go_simp; (try go_bits); (try with_reducible rfl))
    simp only [Act.put, List.setIfInBounds_toArray, List.set_cons_zero, List.set_cons_succ]
  apply seq_act (by rfl)
  · (simp only [List.getElem?_toArray, List.getElem?_cons_succ, List.getElem?_cons_zero]; rfl)
  · rfl
  refine wp_val (run_op_alloc rfl Hal.out) ⟨⟨hc2, q0, q1⟩, ?_⟩
  try simp only [Act.put, List.setIfInBounds_toArray, List.set_cons_zero, List.set_cons_succ]
  refine seq_nil ?_
  apply last_act
  · (simp only [List.getElem?_toArray, List.getElem?_cons_succ, List.getElem?_cons_zero]; rfl)
  · rfl
  refine wp_void (run_op_mapUpdate rfl Hup.out) ?_
  try simp only [Act.put, List.setIfInBounds_toArray, List.set_cons_zero, List.set_cons_succ]
  go_wp2
  refine wp_region_seq (fun w' => w' = W3.drew) [0, 1, 2, 3, 4, 5, 6] [0, 1, 2, 3, 4, 5, 6] (by kernel_rfl) (by kernel_rfl) (by rfl) (by kernel_rfl) (fun _ _ _ _ _ h => h) (rfl) ?_
  repeat
    apply seq_read (by rfl)
    · (simp only [List.getElem?_toArray, List.getElem?_cons_succ, List.getElem?_cons_zero]; rfl)
    · rfl
    · (intro w' hSw; (first | subst hSw | (try dsimp only at hSw)); go_simp; (try go_bits); (try with_reducible rfl))
    simp only [Act.put, List.setIfInBounds_toArray, List.set_cons_zero, List.set_cons_succ]
  apply seq_read (by rfl)
  · (simp only [List.getElem?_toArray, List.getElem?_cons_succ, List.getElem?_cons_zero]; rfl)
  · rfl
  · (intro w' hSw; subst hSw; exact run_op_lookup rfl Hl3.out)
  simp only [Act.put, List.setIfInBounds_toArray, List.set_cons_zero, List.set_cons_succ]
  repeat
    apply seq_read (by rfl)
    · (simp only [List.getElem?_toArray, List.getElem?_cons_succ, List.getElem?_cons_zero]; rfl)
    · rfl
    · (intro w' hSw; (first | subst hSw | (try dsimp only at hSw)); go_simp; (try go_bits); (try with_reducible rfl))
    simp only [Act.put, List.setIfInBounds_toArray, List.set_cons_zero, List.set_cons_succ]
  refine seq_nil ?_
  go_wp2
  go_ret
  exact ⟨rfl, hM3, hz3, ⟨hgr.os, hgr.tape, hgr.output, hgr.size, hgr.block⟩⟩

end Go.Proofs.Ytnndkameadlkdaa
