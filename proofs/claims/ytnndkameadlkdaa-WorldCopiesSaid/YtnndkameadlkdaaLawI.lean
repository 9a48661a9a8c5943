/- The data of WorldSeals. -/
import Derived.Test.YtnndkameadlkdaaLawC
namespace Go.Proofs.Ytnndkameadlkdaa
open Go.RowKit

def oth : List Int := [111, 116, 104, 101, 114]

section
variable {t : WS} {n : Int}
theorem WS.Calm.sealed (h : t.Calm n) {i : Int} (hi : i = 0 ∨ i = 1) : t.sealed i = true := by simp [WS.sealed, h.dead, hi]
theorem sealTo_all (old l : List Int) (k : Int) (h : (l.length : Int) ≤ k) : WS.sealTo old l k = l := by
  unfold WS.sealTo
  rw [if_neg (by omega), List.take_of_length_le (by omega), List.append_nil]
theorem sealTo_min (old l : List Int) (k : Int) : WS.sealTo old l (min l.length k) = WS.sealTo old l k := by
  rcases Int.le_total k l.length with h | h
  · rw [Int.min_eq_right h]
  · rw [Int.min_eq_left h, sealTo_all old l k h, sealTo_all old l _ (by omega)]
theorem WS.Calm.sealing (h : t.Calm n) {i : Int} (hi : i = 0 ∨ i = 1) (l : List Int) :
    (t.sealing i l).Calm n ∧ t.sealB i l = true ∧ (t.sealing i l).lies = t.lies ∧ (t.sealing i l).seals = (fun j => if j = i then l else t.seals j) ∧ (t.sealing i l).trace.length = t.trace.length + 1 := by
  have e1 : t.takes l.length = t := by simp [WS.takes, h.armed]
  have e2 : (t.note 4 i 0 l).takes l.length = t.note 4 i 0 l := by simp [WS.takes, WS.note, h.armed]
  have e3 : t.takesN l.length = l.length := by simp [WS.takesN, h.armed]
  have e : t.sealing i l = (t.note 4 i 0 l).setSeal i l := by
    unfold WS.sealing
    rw [if_pos (h.sealed hi), e2, e3, sealTo_all _ _ _ (Int.le_refl _)]
  rw [e]
  refine ⟨⟨h.dead, h.armed, h.blocks, h.len⟩, ?_, rfl, rfl, by simp [WS.setSeal, WS.note]⟩
  simp [WS.sealB, h.sealed hi, e1, h.dead]
theorem WS.Calm.look (h : t.Calm n) {i : Int} (hi : i = 0 ∨ i = 1) :
    (t.look i).Calm n ∧ t.lookB i = (t.lies t.reads).getD (t.seals i) ∧ (t.look i).lies = t.lies ∧ (t.look i).seals = t.seals ∧ (t.look i).trace.length = t.trace.length + 1 := by
  have e : t.look i = t.count.note 3 i 0 (t.says (t.seals i)) := by unfold WS.look; rw [if_pos (h.sealed hi)]
  rw [e]
  refine ⟨⟨h.dead, h.armed, h.blocks, h.len⟩, ?_, rfl, rfl, by simp [WS.note, WS.count]⟩
  unfold WS.lookB
  rw [if_pos (h.sealed hi)]
  rfl
end

structure SealsData (i k : Int) (a b : List Int) (t1 t2 t3 t4 t5 : WS) : Prop where
  b1 : (WS.new 1).sealB i a = true
  b2 : t1.sealB (1 - i) oth = true
  r3 : t2.lookB i = a
  w4 : t4.sealB i b = decide ((b.length : Int) ≤ k)
  r6 : t5.restart.lookB i = WS.sealTo a b k
  r7 : (t5.restart.look i).lookB (1 - i) = oth
  n1 : t1.trace.length < 900000
  n2 : t2.trace.length < 900000
  n4 : t4.trace.length < 900000
  n6 : t5.restart.trace.length < 900000
  n7 : (t5.restart.look i).trace.length < 900000

theorem seals_data (i k : Int) (a b : List Int) (hi : 0 ≤ i ∧ i < 2) (h0 : 0 ≤ k) (h1 : k ≤ 1000000) :
    SealsData i k a b ((WS.new 1).sealing i a) (((WS.new 1).sealing i a).sealing (1 - i) oth) ((((WS.new 1).sealing i a).sealing (1 - i) oth).look i) (((((WS.new 1).sealing i a).sealing (1 - i) oth).look i).arm k)
      ((((((WS.new 1).sealing i a).sealing (1 - i) oth).look i).arm k).sealing i b) := by
  have hi1 : i = 0 ∨ i = 1 := by omega
  have hi2 : 1 - i = 0 ∨ 1 - i = 1 := by omega
  have hne : ¬ i = 1 - i := by omega
  have hne2 : ¬ 1 - i = i := by omega
  have c0 := calm_new 1 (by omega) (by omega)
  obtain ⟨c1, b1, l1, s1, n1⟩ := c0.sealing hi1 a
  generalize ht1 : (WS.new 1).sealing i a = t1 at *
  obtain ⟨c2, b2, l2, s2, n2⟩ := c1.sealing hi2 oth
  generalize ht2 : t1.sealing (1 - i) oth = t2 at *
  obtain ⟨c3, b3, l3, s3, n3⟩ := c2.look hi1
  generalize ht3 : t2.look i = t3 at *
  have hl1 : t1.lies = fun _ => none := by rw [l1]; rfl
  have hl2 : t2.lies = fun _ => none := by rw [l2, hl1]
  have hl3 : t3.lies = fun _ => none := by rw [l3, hl2]
  have hn1 : t1.trace.length = 1 := by rw [n1]; rfl
  have hs2 : t2.seals i = a := by rw [s2, s1]; simp [hne]
  have hs2' : t2.seals (1 - i) = oth := by rw [s2]; simp
  have e4 : t3.arm k = { t3 with armed := true, power := k } := by
    have : max 0 (min k 1000000) = k := by omega
    simp [WS.arm, c3.dead, this]
  have d4 : (t3.arm k).dead = false := by rw [e4]; exact c3.dead
  have a4 : (t3.arm k).armed = true := by rw [e4]
  have p4 : (t3.arm k).power = k := by rw [e4]
  have bl4 : (t3.arm k).blocks = 1 := by rw [e4]; exact c3.blocks
  have l4 : (t3.arm k).lies = fun _ => none := by rw [e4]; exact hl3
  have s4 : (t3.arm k).seals = t2.seals := by rw [e4]; exact s3
  have n4 : (t3.arm k).trace.length = 3 := by rw [e4]; show t3.trace.length = 3; omega
  have len4 : ∀ p s, ((t3.arm k).slots p s).length = 272 := by rw [e4]; exact c3.len
  generalize ht4 : t3.arm k = t4 at *
  have hsl : t4.sealed i = true := by simp [WS.sealed, d4, hi1]
  have kt : t4.takesN b.length = min (b.length : Int) k := by simp [WS.takesN, a4, p4]
  have f4 : (t4.note 4 i 0 b).takes b.length = { t4.note 4 i 0 b with power := k - min (b.length : Int) k, dead := decide (min (b.length : Int) k < b.length) } := by
    simp [WS.takes, WS.note, a4, p4]
  have e5 : t4.sealing i b = ({ t4.note 4 i 0 b with power := k - min (b.length : Int) k, dead := decide (min (b.length : Int) k < b.length) } : WS).setSeal i (WS.sealTo a b k) := by
    unfold WS.sealing
    rw [if_pos hsl, f4, kt, s4, hs2, sealTo_min]
  have w4 : t4.sealB i b = decide ((b.length : Int) ≤ k) := by
    have : t4.takes b.length = { t4 with power := k - min (b.length : Int) k, dead := decide (min (b.length : Int) k < b.length) } := by simp [WS.takes, a4, p4]
    unfold WS.sealB
    rw [hsl, this]
    show (true && !decide (min (b.length : Int) k < b.length)) = _
    by_cases h : (b.length : Int) ≤ k
    · rw [decide_eq_false (by omega), decide_eq_true h]; rfl
    · rw [decide_eq_true (by omega), decide_eq_false h]; rfl
  have bl5 : (t4.sealing i b).blocks = 1 := by rw [e5]; exact bl4
  have l5 : (t4.sealing i b).lies = fun _ => none := by rw [e5]; exact l4
  have s5 : (t4.sealing i b).seals i = WS.sealTo a b k := by rw [e5]; simp [WS.setSeal]
  have s5' : (t4.sealing i b).seals (1 - i) = oth := by
    rw [e5]
    simp only [WS.setSeal, if_neg hne2]
    show t4.seals (1 - i) = oth
    rw [s4, hs2']
  have len5 : ∀ p s, ((t4.sealing i b).slots p s).length = 272 := by rw [e5]; exact len4
  have n5 : (t4.sealing i b).trace.length = 4 := by rw [e5]; simp [WS.setSeal, WS.note, n4]
  generalize ht5 : t4.sealing i b = t5 at *
  have c6 : t5.restart.Calm 1 := ⟨rfl, rfl, bl5, len5⟩
  obtain ⟨c7, b7, l7, s7, n7⟩ := c6.look hi1
  obtain ⟨c8, b8, l8, s8, n8⟩ := c7.look hi2
  refine ⟨b1, b2, ?_, w4, ?_, ?_, by omega, by omega, by omega, ?_, ?_⟩
  · rw [b3, hl2, hs2]; rfl
  · rw [b7]
    show (t5.lies _).getD (t5.seals i) = _
    rw [l5, s5]
    rfl
  · rw [b8, l7, s7]
    show (t5.lies _).getD (t5.seals (1 - i)) = _
    rw [l5, s5']
    rfl
  · show t5.trace.length < 900000
    omega
  · rw [n7]
    show t5.trace.length + 1 < 900000
    omega

end Go.Proofs.Ytnndkameadlkdaa
