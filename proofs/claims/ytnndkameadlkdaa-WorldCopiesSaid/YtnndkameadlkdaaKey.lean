/- The key of package world's map: a struct of two ints. -/
import Derived.Test.YtnndkameadlkdaaGenD
import Derived.Test.YtnndkameadlkdaaRows
namespace Go.Proofs.Ytnndkameadlkdaa
open Go.RowKit

def plk (a s : Int) : Value := .agg #[.int .i64 a, .int .i64 s]
def PlaceKey (v : Value) : Prop := ∃ a s : Int, v = plk a s

theorem plk_inj {a s a' s' : Int} (h : plk a s = plk a' s') : a = a' ∧ s = s' := by
  unfold plk at h
  simp at h
  exact h

theorem place_held : Try.prog.stoodInHeld 95 = false := by kernel_rfl

theorem place_equal (w : World) (a s a' s' : Int) : (Op.equal 95 (plk a s) (plk a' s')).run Try.prog w = .ok (a == a' && s == s') w := by
  unfold plk Op.equal Op.maxDepth
  go_simp
  by_cases h1 : a = a' <;> by_cases h2 : s = s' <;> simp [h1, h2]

theorem place_check (w : World) (em : Bool) (a s : Int) : (Instr.checkKey em 10000 95 (plk a s)).run Try.prog w = .ok () w := by
  have hint : ∀ n : Int, (Instr.checkKey em 9999 3 (.int .i64 n)).run Try.prog w = .ok () w := fun n => MapKept.run_checkKey (k := .int .i64 n) Try.underlying3 (show MapKept.IsKey (.int .i64) (.int .i64 n) from rfl) em 9998
  have h1 : ∀ (f : Nat), (Instr.checkKey em (f + 1) 95 (plk a s)).run Try.prog w = ((Instr.checkKey em f 3 (.int .i64 a)).run Try.prog w).andThen fun _ w1 => ((Instr.checkKey em f 3 (.int .i64 s)).run Try.prog w1).andThen fun _ w2 => .ok () w2 := by
    intro f
    unfold plk
    rw [Instr.checkKey]
    simp only [Sem.run_bind, run_underlying Try.underlying95, Result.andThen_ok]
    go_simp
    generalize (Instr.checkKey em f 3 (Value.int IntKind.i64 a)).run Try.prog w = r
    cases r <;> simp [Result.andThen]
  rw [h1 9999, hint, Result.andThen_ok, hint, Result.andThen_ok]

theorem place_stays (w : World) (a s : Int) : (Instr.keyThatStays (plk a s) (plk a s)).run Try.prog w = .ok (plk a s) w := by
  have : Instr.sameBits 10000 (plk a s) (plk a s) = true := by simp [plk, Instr.sameBits]
  simp [Instr.keyThatStays, this]

theorem place_asking (w : World) (a s : Int) : ∀ (es : List MapEntry) (i : Nat), (∀ e ∈ es, PlaceKey e.key) →
    ((Instr.findAsking 95 (plk a s) es i).run Try.prog w = .ok none w ∧ ∀ e ∈ es, e.key ≠ plk a s) ∨ ∃ j e, (Instr.findAsking 95 (plk a s) es i).run Try.prog w = .ok (some (i + j, e.val)) w ∧ es[j]? = some e ∧ e.key = plk a s
  | [], i, _ => Or.inl ⟨by simp [Instr.findAsking], by simp⟩
  | e :: es, i, h => by
    obtain ⟨a', s', hk⟩ := h e (.head _)
    have heq := place_equal w a s a' s'
    by_cases hs : a = a' ∧ s = s'
    · obtain ⟨rfl, rfl⟩ := hs
      refine Or.inr ⟨0, e, ?_, rfl, hk⟩
      simp only [beq_self_eq_true, Bool.and_self] at heq
      simp [Instr.findAsking, hk, heq, Result.andThen]
    · have hf : (a == a' && s == s') = false := by
        rw [Bool.and_eq_false_iff]
        by_cases h1 : a = a'
        · right
          simpa using fun h2 => hs ⟨h1, h2⟩
        · left
          simpa using h1
      rw [hf] at heq
      have hne : e.key ≠ plk a s := by
        rw [hk]
        intro hc
        obtain ⟨h1, h2⟩ := plk_inj hc
        exact hs ⟨h1.symm, h2.symm⟩
      rcases place_asking w a s es (i + 1) (fun x hx => h x (.tail _ hx)) with ⟨h1, h2⟩ | ⟨j, e', h1, h2, h3⟩
      · refine Or.inl ⟨by simp [Instr.findAsking, hk, heq, Result.andThen, h1], fun x hx => ?_⟩
        cases hx with
        | head => exact hne
        | tail _ hx => exact h2 x hx
      · refine Or.inr ⟨j + 1, e', ?_, by simpa using h2, h3⟩
        simp [Instr.findAsking, hk, heq, Result.andThen, h1]
        omega

theorem place_findKey (w : World) (a s : Int) (es : List MapEntry) (h : ∀ e ∈ es, PlaceKey e.key) : (Instr.findKey 95 (plk a s) es).run Try.prog w = (Instr.findAsking 95 (plk a s) es 0).run Try.prog w := by
  simp only [Instr.findKey, Sem.run_bind, run_underlying Try.underlying95, Result.andThen_ok]
  cases es with
  | nil => simp [Instr.findNow, Instr.findAsking]
  | cons e es =>
    obtain ⟨a', s', hk⟩ := h e (.head _)
    simp [Instr.findNow, hk, plk, Instr.sameNow]

theorem keyRun_place : KeyRun Try.prog 95 PlaceKey where
  check w em v hv := by obtain ⟨a, s, rfl⟩ := hv; exact place_check w em a s
  find w x hx es hes := by
    obtain ⟨a, s, rfl⟩ := hx
    rw [place_findKey w a s es hes]
    rcases place_asking w a s es 0 hes with h | ⟨j, e, h1, h2, h3⟩
    · exact Or.inl h
    · exact Or.inr ⟨j, e, by simpa using h1, h2, h3⟩
  stays w v hv := by obtain ⟨a, s, rfl⟩ := hv; exact place_stays w a s

end Go.Proofs.Ytnndkameadlkdaa
