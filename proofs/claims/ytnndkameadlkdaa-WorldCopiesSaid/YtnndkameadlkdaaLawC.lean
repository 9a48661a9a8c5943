/- Worlds that have power and do not tear, as data; a source's cells one by one. -/
import Derived.Test.YtnndkameadlkdaaLawB
namespace Go.Proofs.Ytnndkameadlkdaa
open Go.RowKit

theorem Evo.two {a b c : World} (h : Evo (fun _ => False) a b) (k : Evo (fun _ => False) b c) : Evo (fun _ => False) a c := h.trans k (fun _ hf => hf.elim)

structure WS.Calm (t : WS) (n : Int) : Prop where
  dead : t.dead = false
  armed : t.armed = false
  blocks : t.blocks = n
  len : ∀ a s, (t.slots a s).length = 272

theorem calm_new (n : Int) (h0 : 0 ≤ n) (h1 : n ≤ 4096) : (WS.new n).Calm n := ⟨rfl, rfl, by simp [WS.new]; omega, fun _ _ => zeros_len⟩

section
variable {t : WS} {n : Int}
theorem WS.Calm.there (h : t.Calm n) {a s : Int} (h0 : 0 ≤ a) (h1 : a < n) (hs : s = 0 ∨ s = 1) : t.there a s = true := by
  simp [WS.there, h.dead, h.blocks, h0, h1, hs]
theorem over_all {old l : List Int} (h : old.length = 272) : WS.over old (WS.pad l) 272 = WS.pad l := by
  unfold WS.over
  rw [List.take_of_length_le (by rw [pad_len]; decide), List.drop_of_length_le (by rw [h]; decide), List.append_nil]
theorem WS.Calm.write (h : t.Calm n) {a s : Int} (h0 : 0 ≤ a) (h1 : a < n) (hs : s = 0 ∨ s = 1) (l : List Int) :
    (t.write a s l).Calm n ∧ t.writeB a s = true ∧ (t.write a s l).lies = t.lies ∧ (t.write a s l).reads = t.reads ∧
      (t.write a s l).slots = (fun a' s' => if a' = a ∧ s' = s then WS.pad l else t.slots a' s') ∧ (t.write a s l).trace = t.trace ++ [⟨2, a, s, l⟩] := by
  have e1 : t.takes 272 = t := by simp [WS.takes, h.armed]
  have e2 : (t.note 2 a s l).takes 272 = t.note 2 a s l := by simp [WS.takes, WS.note, h.armed]
  have e3 : t.takesN 272 = 272 := by simp [WS.takesN, h.armed]
  have e : t.write a s l = (t.note 2 a s l).setSlot a s (WS.pad l) := by
    unfold WS.write
    rw [if_pos (h.there h0 h1 hs), e2, e3, over_all (h.len a s)]
  rw [e]
  refine ⟨⟨h.dead, h.armed, h.blocks, fun a' s' => ?_⟩, ?_, rfl, rfl, rfl, rfl⟩
  · simp only [WS.setSlot]
    split
    · exact pad_len l
    · exact h.len a' s'
  · simp [WS.writeB, h.there h0 h1 hs, e1, h.dead]
theorem WS.Calm.read (h : t.Calm n) {a s : Int} (h0 : 0 ≤ a) (h1 : a < n) (hs : s = 0 ∨ s = 1) :
    (t.read a s).Calm n ∧ t.readB a s = (t.lies t.reads).getD (t.slots a s) ∧ (t.read a s).lies = t.lies ∧ (t.read a s).reads = t.reads + 1 ∧ (t.read a s).slots = t.slots ∧
      (t.read a s).trace.length = t.trace.length + 1 := by
  have e : t.read a s = t.count.note 1 a s (t.told a s) := by unfold WS.read; rw [if_pos (h.there h0 h1 hs)]
  rw [e]
  refine ⟨⟨h.dead, h.armed, h.blocks, h.len⟩, ?_, rfl, rfl, rfl, ?_⟩
  · unfold WS.readB
    rw [if_pos (h.there h0 h1 hs)]
    rfl
  · simp [WS.note, WS.count]
theorem WS.Calm.lie (h : t.Calm n) (k : Int) (l : List Int) : (t.lie k l).Calm n := ⟨h.dead, h.armed, h.blocks, h.len⟩
end

theorem pad_get (l : List Int) (k : Nat) (hk : k < 272) : (WS.pad l).getD k 0 = if k < l.length then l.getD k 0 else 0 := by
  unfold WS.pad padTo
  rw [List.getD_eq_getElem?_getD, List.getElem?_take, if_pos hk]
  split
  · rw [List.getElem?_append_left (by assumption), List.getD_eq_getElem?_getD]
  · rw [List.getElem?_append_right (by omega), List.getElem?_replicate]
    split <;> rfl
theorem pad_take (l : List Int) (k : Nat) (h1 : k ≤ l.length) (h2 : k ≤ 272) : (WS.pad l).take k = l.take k := by
  unfold WS.pad padTo
  rw [List.take_take, Nat.min_eq_left h2, List.take_append_of_le_length h1]
theorem zeros_get (k : Nat) : zeros272.getD k 0 = 0 := by
  unfold zeros272
  rw [List.getD_eq_getElem?_getD, List.getElem?_replicate]
  split <;> rfl

/-- The cells of a source, one by one. -/
theorem Src.at {w : World} {A : Option Addr} {n c : Nat} {l : List Int} (h : Src w 1 (.slice A n c) n (bys l)) {k : Nat} (hk : k < n) : ∃ ad, A = some ad ∧ w.cell? (ad.add k) = some (.int .u8 (l.getD k 0)) := by
  obtain ⟨A', c', e, hnc, hl, hc⟩ := h
  cases e
  have hl' : k < l.length := by have : (bys l).length = l.length := bys_length l; omega
  obtain ⟨ad, e1, e2⟩ := hc k (.int .u8 (l.getD k 0)) (by simp [bys, List.getElem?_map, List.getElem?_eq_getElem hl'])
  exact ⟨ad, e1, e2⟩

end Go.Proofs.Ytnndkameadlkdaa
