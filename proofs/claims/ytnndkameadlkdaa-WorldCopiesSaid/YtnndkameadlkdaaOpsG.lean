/- The contract of world.New. -/
import Derived.Test.YtnndkameadlkdaaOpsF
namespace Go.Proofs.Ytnndkameadlkdaa
open Go.RowKit

theorem own_nil (w : World) (F : Nat → Prop) : Own w F 5 (.slice none 0 0) [] := ⟨World.ownsRow_nil _ _ _ _, by simp [Value.ownBlock]⟩
theorem okb_nil : Okb [] := ⟨by simp, fun x hx => (by cases hx)⟩

set_option maxRecDepth 100000 in
set_option maxHeartbeats 400000 in
theorem R_new (n : Int) (w : World) :
    Calls Try.prog 11 #[.int .i64 n] w fun e w' => ∃ b F, e = .returned (wp0 b) ∧ Rep w' b (WS.new n) F ∧ Evo (fun _ => False) w w' ∧ ∀ k, F k → w.heap.size ≤ k := by
  have hmm := @run_makeMap Try.prog
  obtain ⟨m, HM⟩ : ∃ m, Hid (max 0 (min n 4096) = m) := ⟨_, rfl⟩
  have hm0 : 0 ≤ m := by have := HM.out; omega
  have hm1 : m ≤ 4096 := by have := HM.out; omega
  have key : Rep (((w.alloc (.map #[] 0)).alloc (.map #[] 0)).alloc (.cells #[.int .i64 m, .map (some w.heap.size), .slice none 0 0, .slice none 0 0, .int .u64 0, .map (some (w.heap.size + 1)), .int .i64 0, .bool false, .int .i64 0, .bool false, .slice none 0 0] 73)) (w.heap.size + 2) (WS.new n) (fun k => w.heap.size ≤ k ∧ k < w.heap.size + 3) := by
    have M1 : IsMap (w.alloc (.map #[] 0)) w.heap.size PlaceKey (fun _ => none) := IsMap.empty w _
    have M2 : IsMap ((w.alloc (.map #[] 0)).alloc (.map #[] 0)) (w.heap.size + 1) (IntKey .i64) (fun _ => none) := by
      have := IsMap.empty (w.alloc (.map #[] 0)) (IntKey .i64)
      simpa using this
    refine ⟨⟨w.heap.size, w.heap.size + 1, .slice none 0 0, .slice none 0 0, .slice none 0 0, fun _ => none, fun _ => none, [], ?_⟩, by simp [WS.new]⟩
    have hb : (WS.new n).blocks = m := HM.out
    exact {
      cell := by
        have := heap_alloc_new ((w.alloc (.map #[] 0)).alloc (.map #[] 0)) (.cells #[.int .i64 m, .map (some w.heap.size), .slice none 0 0, .slice none 0 0, .int .u64 0, .map (some (w.heap.size + 1)), .int .i64 0, .bool false, .int .i64 0, .bool false, .slice none 0 0] 73)
        rw [show ((w.alloc (.map #[] 0)).alloc (.map #[] 0)).heap.size = w.heap.size + 2 by simp] at this
        rw [this]
        simp only [wcells, hb]
        rfl
      fb := by omega
      fms := by omega
      fml := by omega
      ne := by omega
      lt := fun k hk => by simp; omega
      slots := { map := (M1.alloc _).alloc _, none_ := fun a s _ => rfl, some_ := fun a s v hv => (by cases hv), inj := fun a s a' s' v hv => (by cases hv), len := fun _ _ => zeros_len, byt := fun _ _ => zeros_byt }
      lies := { map := M2.alloc _, none_ := fun n _ => rfl, some_ := fun n x hx => (by cases hx) }
      seal0 := own_nil _ _
      seal1 := own_nil _ _
      trace := { row := World.ownsRow_nil _ _ _ _, mine := by simp [Value.ownBlock], len := rfl, own := fun i x v hx => (by simp [WS.new] at hx), okb := fun x hx => (by cases hx) }
      ok0 := okb_nil
      ok1 := okb_nil
      blocks0 := by rw [hb]; exact hm0
      blocks1 := by rw [hb]; exact hm1
      counter0 := by simp [WS.new]
      counter1 := by simp [WS.new]
      reads0 := by simp [WS.new]
      reads1 := by simp [WS.new]
      power0 := by simp [WS.new]
      power1 := by simp [WS.new]
      small := by simp [WS.new] }
  have HK := Lib.hid key
  clear key
  have hfin : ∀ W b', (((w.alloc (.map #[] 0)).alloc (.map #[] 0)).alloc (.cells #[.int .i64 m, .map (some w.heap.size), .slice none 0 0, .slice none 0 0, .int .u64 0, .map (some (w.heap.size + 1)), .int .i64 0, .bool false, .int .i64 0, .bool false, .slice none 0 0] 73)) = W → b' = w.heap.size + 2 →
      ∃ b F, Ending.returned (wp0 b') = .returned (wp0 b) ∧ Rep W b (WS.new n) F ∧ Evo (fun _ => False) w W ∧ ∀ k, F k → w.heap.size ≤ k := by
    rintro W b' rfl rfl
    exact ⟨_, _, rfl, HK.out, (((Evo.refl _ w).alloc _).alloc _).alloc _, fun k hk => hk.1⟩
  clear HK
  have Hf := Lib.hid hfin
  clear hfin
  by_cases h1 : 4096 < n
  · obtain rfl : m = 4096 := by have := HM.out; omega
    clear HM
    go_enter Try.func11, Try.ntmps11
    go_wp2
    go_ret
    obtain ⟨b, F, e1, r⟩ := Hf.out _ _ rfl rfl
    first | exact ⟨b, F, e1, r⟩ | exact ⟨b, e1, F, r⟩
  · by_cases h2 : 0 < n
    · obtain rfl : m = n := by have := HM.out; omega
      clear HM
      go_enter Try.func11, Try.ntmps11
      go_wp2
      go_ret
      obtain ⟨b, F, e1, r⟩ := Hf.out _ _ rfl rfl
      first | exact ⟨b, F, e1, r⟩ | exact ⟨b, e1, F, r⟩
    · obtain rfl : m = 0 := by have := HM.out; omega
      clear HM
      by_cases h3 : n = 0
      · subst h3
        go_enter Try.func11, Try.ntmps11
        go_wp2
        go_ret
        obtain ⟨b, F, e1, r⟩ := Hf.out _ _ rfl rfl
        first | exact ⟨b, F, e1, r⟩ | exact ⟨b, e1, F, r⟩
      · have h4 : n < 0 := by omega
        clear h3 h2 h1
        go_enter Try.func11, Try.ntmps11
        go_wp2
        go_ret
        obtain ⟨b, F, e1, r⟩ := Hf.out _ _ rfl rfl
        first | exact ⟨b, F, e1, r⟩ | exact ⟨b, e1, F, r⟩

end Go.Proofs.Ytnndkameadlkdaa
