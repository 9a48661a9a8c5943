/- The walks of audit.Straight and audit.Epochs at nil. -/
import Derived.Test.YtelljdkcgipkkaaEp
import Derived.WalkMore
namespace Go.Proofs.Ytelljdkcgipkkaa
open Go.RowKit Go.Shelf

theorem epochs_nil (w : World) : Calls Try.prog 10 #[.slice none 0 0] w fun e w' => ∃ A c, e = .returned (.slice A 1 c) ∧ Evo (fun _ => False) w w' := by
  refine (callsIn_wide (n := 3)).1 ?_
  refine (epochs_in _ 3 trivial trivial trivial rfl (Nat.le_refl _) w).mono ?_
  rintro e w' ⟨v, rfl, hown, hb⟩
  obtain ⟨A, c, rfl, _⟩ := ownsRow_slice hown
  exact ⟨A, c, rfl, ⟨hb.os, hb.tape, hb.output, hb.size, fun k hk _ => hb.block k hk⟩⟩

set_option maxRecDepth 100000 in
set_option maxHeartbeats 400000 in
theorem straight_nil (w : World) : Calls Try.prog 8 #[.slice none 0 0] w fun e w' => e = .returned (.int .i64 (-1)) ∧ Evo (fun _ => False) w w' := by
  have hmm := @run_makeMap Try.prog
  go_enter Try.func8, Try.ntmps8
  go_wp2
  go_step3
  go_wp2
  go_step3
  go_wp2
  refine wp_loop_rounds 1 ?_
  rw [rounds_succ]
  go_wp2
  try rw [Exit.noGoto_ret]
  go_ret
  exact ⟨rfl, (Evo.refl _ w).alloc _⟩

end Go.Proofs.Ytelljdkcgipkkaa
