/- small; the data of WorldBumps. -/
import Derived.Test.YtnndkameadlkdaaDoB
import Derived.Test.YtnndkameadlkdaaLawE
namespace Go.Proofs.Ytnndkameadlkdaa
open Go.RowKit

set_option maxRecDepth 100000 in
set_option maxHeartbeats 400000 in
theorem small_walk (w : World) (v : Value) (ds : List DoD) (h : ArgD w v ds) :
    Calls Try.prog 23 #[v] w fun e w' => e = .returned (.bool (decide (ds.length ≤ 40 ∧ longs ds ≤ 3000))) ∧ w = w' := by
  have hlen := h.len
  obtain ⟨A, c, rfl, hc⟩ : ∃ A c, v = .slice A ds.length c ∧ ds.length ≤ c := by obtain ⟨A, c, e, h, _⟩ := h.src; exact ⟨A, c, e, h⟩
  rcases Nat.lt_or_ge 40 ds.length with h1 | h1
  · have hd : decide (ds.length ≤ 40 ∧ longs ds ≤ 3000) = false := decide_eq_false (fun h => by omega)
    rw [hd]
    clear hd
    have h1z : ¬ (ds.length : Int) ≤ 40 := by omega
    go_enter Try.func23, Try.ntmps23
    go_wp2
    go_ret
    exact ⟨rfl, rfl⟩
  · have h1z : (ds.length : Int) ≤ 40 := by omega
    have hL := long_walk w _ ds h h1
    by_cases h2 : longs ds ≤ 3000
    · have hd : decide (ds.length ≤ 40 ∧ longs ds ≤ 3000) = true := decide_eq_true ⟨h1, h2⟩
      rw [hd]
      clear hd
      have h2z : (longs ds : Int) ≤ 3000 := by omega
      go_enter Try.func23, Try.ntmps23
      go_wp2_with fail
      refine hL.mono ?_
      rintro e w' ⟨rfl, rfl⟩
      go_wp2
      go_ret
      exact ⟨rfl, rfl⟩
    · have hd : decide (ds.length ≤ 40 ∧ longs ds ≤ 3000) = false := decide_eq_false (fun h => h2 h.2)
      rw [hd]
      clear hd
      have h2z : (3000 : Int) < (longs ds : Int) := by omega
      have h2y : ¬ longs ds ≤ 3000 := h2
      go_enter Try.func23, Try.ntmps23
      go_wp2_with fail
      refine hL.mono ?_
      rintro e w' ⟨rfl, rfl⟩
      go_wp2
      go_ret
      exact ⟨congrArg (fun b => Ending.returned (Value.bool b)) (decide_eq_false (by omega) : decide ((longs ds : Int) ≤ 3000) = false), rfl⟩

theorem longs_each {ds : List DoD} {d : DoD} (h : d ∈ ds) : d.b.length ≤ longs ds := by
  induction ds with
  | nil => cases h
  | cons x xs ih =>
    rcases List.mem_cons.1 h with rfl | h
    · simp only [longs]; omega
    · have := ih h; simp only [longs]; omega

/-! ### what each thing does to the counter and to the trace -/
theorem WS.write_fields (t : WS) (a s : Int) (l : List Int) : (t.write a s l).counter = t.counter ∧ (t.write a s l).trace.length ≤ t.trace.length + 1 := by
  unfold WS.write
  split
  · have h1 := takes_counter (t.note 2 a s l) 272
    have h2 := takes_trace (t.note 2 a s l) 272
    refine ⟨h1, ?_⟩
    show ((t.note 2 a s l).takes 272).trace.length ≤ _
    rw [h2]
    simp [WS.note]
  · exact ⟨rfl, by omega⟩
theorem WS.sealing_fields (t : WS) (i : Int) (l : List Int) : (t.sealing i l).counter = t.counter ∧ (t.sealing i l).trace.length ≤ t.trace.length + 1 := by
  unfold WS.sealing
  split
  · have h1 := takes_counter (t.note 4 i 0 l) l.length
    have h2 := takes_trace (t.note 4 i 0 l) l.length
    refine ⟨h1, ?_⟩
    show ((t.note 4 i 0 l).takes l.length).trace.length ≤ _
    rw [h2]
    simp [WS.note]
  · exact ⟨rfl, by omega⟩
theorem WS.read_fields (t : WS) (a s : Int) : (t.read a s).counter = t.counter ∧ (t.read a s).trace.length ≤ t.trace.length + 1 := by
  unfold WS.read
  split
  · exact ⟨rfl, by simp [WS.note, WS.count]⟩
  · exact ⟨rfl, by omega⟩
theorem WS.look_fields (t : WS) (i : Int) : (t.look i).counter = t.counter ∧ (t.look i).trace.length ≤ t.trace.length + 1 := by
  unfold WS.look
  split
  · exact ⟨rfl, by simp [WS.note, WS.count]⟩
  · exact ⟨rfl, by omega⟩
theorem WS.arm_fields (t : WS) (n : Int) : (t.arm n).counter = t.counter ∧ (t.arm n).trace = t.trace := by
  unfold WS.arm
  split <;> exact ⟨rfl, rfl⟩
theorem WS.bump_fields (t : WS) (hp : 0 ≤ t.power) : (t.bump.counter = t.counter + if t.bumpB = true then 1 else 0) ∧ t.bump.trace.length ≤ t.trace.length + 1 ∧ (t.bumpB = true → t.counter ≠ 18446744073709551615 ∧ t.bump.dead = false) := by
  unfold WS.bump WS.bumpB
  cases hb : t.bumps with
  | false => simp
  | true =>
    have hf := bump_facts hb
    have h1 := takes_counter t 1
    have h2 := takes_trace t 1
    by_cases hk : t.takesN 1 = 0
    · simp [hk, h1, h2]
    · simp only [hk, if_true, if_false, Bool.true_and, ne_eq, not_false_eq_true, decide_true]
      refine ⟨?_, ?_, fun _ => ⟨hf.2, ?_⟩⟩
      · rfl
      · show ((t.takes 1).trace ++ _).length ≤ _
        rw [h2]
        simp
      · show (t.takes 1).dead = false
        unfold WS.takesN at hk
        unfold WS.takes
        split
        · rename_i ha
          rw [if_pos ha] at hk
          simp only [decide_eq_false_iff_not]
          omega
        · exact hf.1

theorem did_trace (t : WS) (d : DoD) (hp : 0 ≤ t.power) : (t.did d).trace.length ≤ t.trace.length + 1 := by
  unfold WS.did
  split
  · exact (t.read_fields _ _).2
  split
  · exact (t.write_fields _ _ _).2
  split
  · exact (t.look_fields _).2
  split
  · exact (t.sealing_fields _ _).2
  split
  · exact (t.bump_fields hp).2.1
  split
  · exact Nat.le_succ _
  split
  · rw [(t.arm_fields _).2]; exact Nat.le_succ _
  split
  · exact Nat.le_succ _
  split
  · exact Nat.le_succ _
  · exact Nat.le_succ _

/-- What is done raises the counter by a bump alone. -/
theorem did_counter (t : WS) (d : DoD) (h9 : d.kind ≠ 9) (h5 : d.kind ≠ 5) : (t.did d).counter = t.counter := by
  unfold WS.did
  split
  · exact (t.read_fields _ _).1
  split
  · exact (t.write_fields _ _ _).1
  split
  · exact (t.look_fields _).1
  split
  · exact (t.sealing_fields _ _).1
  split
  · rfl
  split
  · exact (t.arm_fields _).1
  split
  · rfl
  rfl
theorem did_bump (t : WS) (d : DoD) (h5 : d.kind = 5) : t.did d = t.bump ∧ t.didB d = t.bumpB := by
  unfold WS.did WS.didB
  rw [h5]
  exact ⟨rfl, rfl⟩

end Go.Proofs.Ytnndkameadlkdaa
