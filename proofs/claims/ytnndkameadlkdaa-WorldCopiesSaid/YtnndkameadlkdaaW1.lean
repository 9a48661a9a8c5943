/- The walks of package world's small functions, said of cells. -/
import Derived.Test.YtnndkameadlkdaaGenD
import Derived.Test.YtnndkameadlkdaaRows
import Derived.Lib.Hide
namespace Go.Proofs.Ytnndkameadlkdaa
open Go.RowKit

abbrev wp0 (b : Nat) : Value := .pointer (some ⟨b, 0, none⟩)

/-! there -/
set_option maxRecDepth 100000 in
set_option maxHeartbeats 400000 in
theorem there_yes (b : Nat) (at_ sl n : Int) (w : World) (h9 : w.cell? ⟨b, 9, none⟩ = some (.bool false)) (h0 : w.cell? ⟨b, 0, none⟩ = some (.int .i64 n)) (h1 : 0 ≤ at_) (h2 : at_ < n) (h3 : sl = 0 ∨ sl = 1) :
    Calls Try.prog 33 #[wp0 b, .int .i64 at_, .int .i64 sl] w fun e w' => e = .returned (.bool true) ∧ w = w' := by
  rcases h3 with rfl | rfl
  all_goals
    go_enter Try.func33, Try.ntmps33
    go_wp2
    go_ret
    exact ⟨rfl, rfl⟩
set_option maxRecDepth 100000 in
set_option maxHeartbeats 400000 in
theorem there_no (b : Nat) (at_ sl n : Int) (d : Bool) (w : World) (h9 : w.cell? ⟨b, 9, none⟩ = some (.bool d)) (h0 : w.cell? ⟨b, 0, none⟩ = some (.int .i64 n)) (h : ¬ (d = false ∧ 0 ≤ at_ ∧ at_ < n ∧ (sl = 0 ∨ sl = 1))) :
    Calls Try.prog 33 #[wp0 b, .int .i64 at_, .int .i64 sl] w fun e w' => e = .returned (.bool false) ∧ w = w' := by
  cases d with
  | true =>
    clear h
    go_enter Try.func33, Try.ntmps33
    go_wp2
    go_ret
    exact ⟨rfl, rfl⟩
  | false =>
    by_cases h1 : 0 ≤ at_
    · by_cases h2 : at_ < n
      · have h3 : ¬ sl = 0 := fun e => h ⟨rfl, h1, h2, .inl e⟩
        have h4 : ¬ sl = 1 := fun e => h ⟨rfl, h1, h2, .inr e⟩
        have g3 : (sl == 0) = false := by simpa using h3
        have g4 : (sl == 1) = false := by simpa using h4
        clear h h3 h4
        go_enter Try.func33, Try.ntmps33
        go_wp2
        go_ret
        exact ⟨rfl, rfl⟩
      · clear h
        go_enter Try.func33, Try.ntmps33
        go_wp2
        go_ret
        exact ⟨rfl, rfl⟩
    · clear h
      go_enter Try.func33, Try.ntmps33
      go_wp2
      go_ret
      exact ⟨rfl, rfl⟩

/-! sealed -/
set_option maxRecDepth 100000 in
set_option maxHeartbeats 400000 in
theorem sealed_yes (b : Nat) (i : Int) (w : World) (h9 : w.cell? ⟨b, 9, none⟩ = some (.bool false)) (h3 : i = 0 ∨ i = 1) :
    Calls Try.prog 39 #[wp0 b, .int .i64 i] w fun e w' => e = .returned (.bool true) ∧ w = w' := by
  rcases h3 with rfl | rfl
  all_goals
    go_enter Try.func39, Try.ntmps39
    go_wp2
    go_ret
    exact ⟨rfl, rfl⟩
set_option maxRecDepth 100000 in
set_option maxHeartbeats 400000 in
theorem sealed_no (b : Nat) (i : Int) (d : Bool) (w : World) (h9 : w.cell? ⟨b, 9, none⟩ = some (.bool d)) (h : ¬ (d = false ∧ (i = 0 ∨ i = 1))) :
    Calls Try.prog 39 #[wp0 b, .int .i64 i] w fun e w' => e = .returned (.bool false) ∧ w = w' := by
  cases d with
  | true =>
    clear h
    go_enter Try.func39, Try.ntmps39
    go_wp2
    go_ret
    exact ⟨rfl, rfl⟩
  | false =>
    have h3 : ¬ i = 0 := fun e => h ⟨rfl, .inl e⟩
    have h4 : ¬ i = 1 := fun e => h ⟨rfl, .inr e⟩
    have g3 : (i == 0) = false := by simpa using h3
    have g4 : (i == 1) = false := by simpa using h4
    clear h h3 h4
    go_enter Try.func39, Try.ntmps39
    go_wp2
    go_ret
    exact ⟨rfl, rfl⟩

/-! takes -/
set_option maxRecDepth 100000 in
set_option maxHeartbeats 400000 in
theorem takes_un (b : Nat) (n : Int) (w : World) (h7 : w.cell? ⟨b, 7, none⟩ = some (.bool false)) :
    Calls Try.prog 37 #[wp0 b, .int .i64 n] w fun e w' => e = .returned (.int .i64 n) ∧ w = w' := by
  go_enter Try.func37, Try.ntmps37
  go_wp2
  go_ret
  exact ⟨rfl, rfl⟩
set_option maxRecDepth 100000 in
set_option maxHeartbeats 400000 in
theorem takes_full (b : Nat) (n k : Int) (x : Bool) (w : World) (h0 : 0 ≤ n) (h1 : n ≤ 1000000000000) (hk : n ≤ k) (hk1 : k ≤ 1000000) (h7 : w.cell? ⟨b, 7, none⟩ = some (.bool true))
    (h8 : w.cell? ⟨b, 8, none⟩ = some (.int .i64 k)) (h9 : w.cell? ⟨b, 9, none⟩ = some (.bool x)) (f8 : w.frozen? ⟨b, 8, none⟩ = false) (f9 : w.frozen? ⟨b, 9, none⟩ = false) :
    Calls Try.prog 37 #[wp0 b, .int .i64 n] w fun e w' => e = .returned (.int .i64 n) ∧ (w.setCell ⟨b, 8, none⟩ (.int .i64 (k - n))).setCell ⟨b, 9, none⟩ (.bool false) = w' := by
  go_enter Try.func37, Try.ntmps37
  go_wp2
  go_ret
  exact ⟨rfl, rfl⟩
set_option maxRecDepth 100000 in
set_option maxHeartbeats 400000 in
theorem takes_part (b : Nat) (n k : Int) (x : Bool) (w : World) (h0 : 0 ≤ k) (h1 : n ≤ 1000000000000) (hk : k < n) (hk1 : k ≤ 1000000) (h7 : w.cell? ⟨b, 7, none⟩ = some (.bool true))
    (h8 : w.cell? ⟨b, 8, none⟩ = some (.int .i64 k)) (h9 : w.cell? ⟨b, 9, none⟩ = some (.bool x)) (f8 : w.frozen? ⟨b, 8, none⟩ = false) (f9 : w.frozen? ⟨b, 9, none⟩ = false) :
    Calls Try.prog 37 #[wp0 b, .int .i64 n] w fun e w' => e = .returned (.int .i64 k) ∧ (w.setCell ⟨b, 8, none⟩ (.int .i64 0)).setCell ⟨b, 9, none⟩ (.bool true) = w' := by
  go_enter Try.func37, Try.ntmps37
  go_wp2
  go_ret
  exact ⟨rfl, by simp⟩

/-! Counter, Dead, Arm, Restart, Set -/
set_option maxRecDepth 100000 in
set_option maxHeartbeats 400000 in
theorem counter_walk (b : Nat) (n : Int) (d : Bool) (w : World) (h9 : w.cell? ⟨b, 9, none⟩ = some (.bool d)) (h4 : w.cell? ⟨b, 4, none⟩ = some (.int .u64 n)) :
    Calls Try.prog 19 #[wp0 b] w fun e w' => e = .returned (.int .u64 (if d then 0 else n)) ∧ w = w' := by
  cases d
  all_goals
    go_enter Try.func19, Try.ntmps19
    go_wp2
    go_ret
    exact ⟨rfl, rfl⟩
set_option maxRecDepth 100000 in
set_option maxHeartbeats 400000 in
theorem dead_walk (b : Nat) (d : Bool) (w : World) (h9 : w.cell? ⟨b, 9, none⟩ = some (.bool d)) :
    Calls Try.prog 17 #[wp0 b] w fun e w' => e = .returned (.bool d) ∧ w = w' := by
  go_enter Try.func17, Try.ntmps17
  go_wp2
  go_ret
  exact ⟨rfl, rfl⟩
set_option maxRecDepth 100000 in
set_option maxHeartbeats 400000 in
theorem arm_dead (b : Nat) (n : Int) (w : World) (h9 : w.cell? ⟨b, 9, none⟩ = some (.bool true)) :
    Calls Try.prog 16 #[wp0 b, .int .i64 n] w fun e w' => e = .returned (.tuple #[]) ∧ w = w' := by
  go_enter Try.func16, Try.ntmps16
  go_wp2
  go_end0
  exact ⟨rfl, rfl⟩
set_option maxRecDepth 100000 in
set_option maxHeartbeats 400000 in
theorem arm_live (b : Nat) (n : Int) (x p : Value) (w : World) (h9 : w.cell? ⟨b, 9, none⟩ = some (.bool false)) (h7 : w.cell? ⟨b, 7, none⟩ = some x) (h8 : w.cell? ⟨b, 8, none⟩ = some p)
    (f7 : w.frozen? ⟨b, 7, none⟩ = false) (f8 : w.frozen? ⟨b, 8, none⟩ = false) :
    Calls Try.prog 16 #[wp0 b, .int .i64 n] w fun e w' => e = .returned (.tuple #[]) ∧ (w.setCell ⟨b, 7, none⟩ (.bool true)).setCell ⟨b, 8, none⟩ (.int .i64 (max 0 (min n 1000000))) = w' := by
  by_cases h : n ≤ 1000000
  · by_cases h1 : 0 < n
    · have e1 : max 0 (min n 1000000) = n := by omega
      rw [e1]
      clear e1
      go_enter Try.func16, Try.ntmps16
      go_wp2
      go_end0
      exact ⟨rfl, rfl⟩
    · have e1 : max 0 (min n 1000000) = 0 := by omega
      rw [e1]
      clear e1
      go_enter Try.func16, Try.ntmps16
      go_wp2
      all_goals
        go_end0
        refine ⟨rfl, ?_⟩
        try rfl
      all_goals (rw [show n = 0 by omega])
  · have e1 : max 0 (min n 1000000) = 1000000 := by omega
    rw [e1]
    clear e1
    go_enter Try.func16, Try.ntmps16
    go_wp2
    go_end0
    exact ⟨rfl, rfl⟩
set_option maxRecDepth 100000 in
set_option maxHeartbeats 400000 in
theorem restart_walk (b : Nat) (x y : Value) (w : World) (h7 : w.cell? ⟨b, 7, none⟩ = some x) (h9 : w.cell? ⟨b, 9, none⟩ = some y)
    (f7 : w.frozen? ⟨b, 7, none⟩ = false) (f9 : w.frozen? ⟨b, 9, none⟩ = false) :
    Calls Try.prog 20 #[wp0 b] w fun e w' => e = .returned (.tuple #[]) ∧ (w.setCell ⟨b, 7, none⟩ (.bool false)).setCell ⟨b, 9, none⟩ (.bool false) = w' := by
  go_enter Try.func20, Try.ntmps20
  go_wp2
  go_end0
  exact ⟨rfl, rfl⟩
set_option maxRecDepth 100000 in
set_option maxHeartbeats 400000 in
theorem set_walk (b : Nat) (n : Int) (x : Value) (w : World) (h4 : w.cell? ⟨b, 4, none⟩ = some x) (f4 : w.frozen? ⟨b, 4, none⟩ = false) :
    Calls Try.prog 24 #[wp0 b, .int .u64 n] w fun e w' => e = .returned (.tuple #[]) ∧ w.setCell ⟨b, 4, none⟩ (.int .u64 n) = w' := by
  go_enter Try.func24, Try.ntmps24
  go_wp2
  go_end0
  exact ⟨rfl, rfl⟩

end Go.Proofs.Ytnndkameadlkdaa
