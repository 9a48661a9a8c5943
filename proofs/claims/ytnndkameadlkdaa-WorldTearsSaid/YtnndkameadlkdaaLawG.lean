/- The data of WorldTears. -/
import Derived.Test.YtnndkameadlkdaaLawE
namespace Go.Proofs.Ytnndkameadlkdaa
open Go.RowKit

theorem over_len2 {l m : List Int} (k : Int) (h1 : l.length = 272) (h2 : m.length = 272) : (WS.over l m k).length = 272 := by
  simp [WS.over, h1, h2]
  omega
theorem over_get (l m : List Int) (k : Int) (hk : 0 ≤ k) (hl : l.length = 272) (hm : m.length = 272) (i : Nat) (hi : i < 272) : (WS.over l m k).getD i 0 = if k ≤ (i : Int) then l.getD i 0 else m.getD i 0 := by
  unfold WS.over
  rw [List.getD_eq_getElem?_getD]
  by_cases h : k ≤ (i : Int)
  · rw [if_pos h, List.getElem?_append_right (by simp; omega), List.getElem?_drop, List.getD_eq_getElem?_getD]
    congr 2
    simp
    omega
  · rw [if_neg h, List.getElem?_append_left (by simp; omega), List.getElem?_take, if_pos (by omega), List.getD_eq_getElem?_getD]
theorem over_min (l m : List Int) (k : Int) (hl : l.length = 272) (hm : m.length = 272) : WS.over l m (min 272 k) = WS.over l m k := by
  unfold WS.over
  rcases Int.le_total k 272 with h | h
  · rw [Int.min_eq_right h]
  · rw [Int.min_eq_left h, List.take_of_length_le (by rw [hm]; decide), List.take_of_length_le (by rw [hm]; omega), List.drop_of_length_le (by rw [hl]; decide), List.drop_of_length_le (by rw [hl]; omega)]

/-- What stands behind the tear, or the bump. -/
structure TearsTail (x : WS) (a b : List Int) (k : Int) : Prop where
  r : x.restart.readB 1 0 = WS.over (WS.pad a) (WS.pad b) k
  d : (x.restart.read 1 0).dead = false
  w : (x.restart.read 1 0).writeB 0 0 = true
  n0 : x.restart.trace.length < 900000
  n1 : (x.restart.read 1 0).trace.length < 900000

theorem tears_tail {x : WS} {a b : List Int} {k : Int} (hb : x.blocks = 2) (hl : x.lies = fun _ => none) (hs : x.slots 1 0 = WS.over (WS.pad a) (WS.pad b) k) (hlen : ∀ p s, (x.slots p s).length = 272) (hn : x.trace.length ≤ 100) : TearsTail x a b k := by
  have c : x.restart.Calm 2 := ⟨rfl, rfl, hb, hlen⟩
  obtain ⟨c1, b1, l1, r1, s1, n1⟩ := c.read (a := 1) (s := 0) (by omega) (by omega) (.inl rfl)
  obtain ⟨c2, b2, _⟩ := c1.write (a := 0) (s := 0) (by omega) (by omega) (.inl rfl) []
  refine ⟨?_, c1.dead, b2, ?_, ?_⟩
  · rw [b1]
    show (x.lies x.reads).getD (x.slots 1 0) = _
    rw [hl, hs]
    rfl
  · show x.trace.length < 900000
    omega
  · rw [n1]
    show x.trace.length + 1 < 900000
    omega

structure TearsData (a b : List Int) (k : Int) (t1 t2 t3 t4 : WS) : Prop where
  n1 : t1.trace.length < 900000
  n3 : t3.trace.length < 900000
  n4 : t4.trace.length < 900000
  r1 : t1.readB 1 0 = WS.pad a
  w3 : t3.writeB 1 0 = decide (272 ≤ k)
  d4 : t4.dead = decide (k < 272)
  low : k < 272 → t4.bumpB = false ∧ t4.bump = t4 ∧ t4.writeB 0 0 = false ∧ t4.write 0 0 b = t4 ∧ t4.readB 1 0 = [] ∧ t4.read 1 0 = t4 ∧ t4.count64 = 0 ∧ TearsTail t4 a b k
  high : 272 ≤ k → t4.bumpB = decide (272 < k) ∧ TearsTail t4.bump a b k

theorem tears_data (a b : List Int) (k : Int) (h0 : 0 ≤ k) (h1 : k < 300) :
    TearsData a b k ((WS.new 2).write 1 0 a) (((WS.new 2).write 1 0 a).read 1 0) ((((WS.new 2).write 1 0 a).read 1 0).arm k) (((((WS.new 2).write 1 0 a).read 1 0).arm k).write 1 0 b) := by
  have c0 := calm_new 2 (by omega) (by omega)
  obtain ⟨c1, b1, l1, r1, s1, n1⟩ := c0.write (a := 1) (s := 0) (by omega) (by omega) (.inl rfl) a
  have z1 : ((WS.new 2).write 1 0 a).counter = 0 := by
    have e : (WS.new 2).write 1 0 a = ((WS.new 2).note 2 1 0 a).setSlot 1 0 (WS.over zeros272 (WS.pad a) 272) := by
      unfold WS.write
      rw [if_pos (c0.there (by omega) (by omega) (.inl rfl))]
      rfl
    rw [e]
    rfl
  generalize ht1 : (WS.new 2).write 1 0 a = t1 at *
  obtain ⟨c2, b2, l2, r2, s2, n2⟩ := c1.read (a := 1) (s := 0) (by omega) (by omega) (.inl rfl)
  have z2 : (t1.read 1 0).counter = 0 := by
    have e : t1.read 1 0 = t1.count.note 1 1 0 (t1.told 1 0) := by unfold WS.read; rw [if_pos (c1.there (by omega) (by omega) (.inl rfl))]
    rw [e]
    exact z1
  generalize ht2 : t1.read 1 0 = t2 at *
  have hs1 : t1.slots 1 0 = WS.pad a := by rw [s1]; simp
  have hl1 : t1.lies = fun _ => none := by rw [l1]; rfl
  have hn1 : t1.trace.length = 1 := by rw [n1]; rfl
  have hs2 : t2.slots 1 0 = WS.pad a := by rw [s2]; exact hs1
  have hl2 : t2.lies = fun _ => none := by rw [l2]; exact hl1
  have e3 : t2.arm k = { t2 with armed := true, power := k } := by
    have : max 0 (min k 1000000) = k := by omega
    simp [WS.arm, c2.dead, this]
  have d3 : (t2.arm k).dead = false := by rw [e3]; exact c2.dead
  have a3 : (t2.arm k).armed = true := by rw [e3]
  have p3 : (t2.arm k).power = k := by rw [e3]
  have bl3 : (t2.arm k).blocks = 2 := by rw [e3]; exact c2.blocks
  have l3 : (t2.arm k).lies = fun _ => none := by rw [e3]; exact hl2
  have s3 : (t2.arm k).slots = t2.slots := by rw [e3]
  have n3 : (t2.arm k).trace = t2.trace := by rw [e3]
  have z3 : (t2.arm k).counter = 0 := by rw [e3]; exact z2
  generalize ht3 : t2.arm k = t3 at *
  have th3 : t3.there 1 0 = true := by simp [WS.there, d3, bl3]
  have e4 : t3.write 1 0 b = ((t3.note 2 1 0 b).takes 272).setSlot 1 0 (WS.over (t3.slots 1 0) (WS.pad b) (t3.takesN 272)) := by unfold WS.write; rw [if_pos th3]
  have k3 : t3.takesN 272 = min 272 k := by simp [WS.takesN, a3, p3]
  have o3 : WS.over (t3.slots 1 0) (WS.pad b) (t3.takesN 272) = WS.over (WS.pad a) (WS.pad b) k := by rw [k3, s3, hs2, over_min _ _ _ (pad_len a) (pad_len b)]
  have f3 : (t3.note 2 1 0 b).takes 272 = { t3.note 2 1 0 b with power := k - min 272 k, dead := decide (min 272 k < 272) } := by
    simp [WS.takes, WS.note, a3, p3]
  have g3 : decide (min 272 k < 272) = decide (k < 272) := by
    by_cases h : k < 272
    · rw [decide_eq_true h, decide_eq_true (by omega)]
    · rw [decide_eq_false h, decide_eq_false (by omega)]
  rw [o3, f3, g3] at e4
  have w3 : t3.writeB 1 0 = decide (272 ≤ k) := by
    have : t3.takes 272 = { t3 with power := k - min 272 k, dead := decide (min 272 k < 272) } := by simp [WS.takes, a3, p3]
    unfold WS.writeB
    rw [th3, this]
    show (true && !decide (min 272 k < 272)) = _
    rw [g3]
    by_cases h : k < 272
    · rw [decide_eq_true h, decide_eq_false (by omega)]; rfl
    · rw [decide_eq_false h, decide_eq_true (by omega)]; rfl
  have d4 : (t3.write 1 0 b).dead = decide (k < 272) := by rw [e4]; rfl
  have p4 : (t3.write 1 0 b).power = k - min 272 k := by rw [e4]; rfl
  have a4 : (t3.write 1 0 b).armed = true := by rw [e4]; exact a3
  have bl4 : (t3.write 1 0 b).blocks = 2 := by rw [e4]; exact bl3
  have l4 : (t3.write 1 0 b).lies = fun _ => none := by rw [e4]; exact l3
  have s4 : (t3.write 1 0 b).slots 1 0 = WS.over (WS.pad a) (WS.pad b) k := by rw [e4]; simp [WS.setSlot]
  have len4 : ∀ p s, ((t3.write 1 0 b).slots p s).length = 272 := by
    intro p s
    rw [e4]
    simp only [WS.setSlot]
    split
    · unfold WS.over
      simp [pad_len]
      omega
    · show (t3.slots p s).length = 272
      rw [s3]
      exact c2.len p s
  have n4 : (t3.write 1 0 b).trace.length = 3 := by
    rw [e4]
    simp [WS.setSlot, WS.note, n3, n2, hn1]
  have z4 : (t3.write 1 0 b).counter = 0 := by rw [e4]; exact z3
  generalize ht4 : t3.write 1 0 b = t4 at *
  refine ⟨by rw [hn1]; omega, by rw [n3, n2, hn1]; omega, by rw [n4]; omega, by rw [b2, hl1, hs1]; rfl, w3, d4, ?_, ?_⟩
  · intro hk
    have hd : t4.dead = true := by rw [d4, decide_eq_true hk]
    have hb : t4.bumps = false := by simp [WS.bumps, hd]
    have ht : t4.there 0 0 = false := by simp [WS.there, hd]
    have ht' : t4.there 1 0 = false := by simp [WS.there, hd]
    refine ⟨by simp [WS.bumpB, hb], by simp [WS.bump, hb], by simp [WS.writeB, ht], by simp [WS.write, ht], by simp [WS.readB, ht'], by simp [WS.read, ht'], by simp [WS.count64, hd], tears_tail bl4 l4 s4 len4 (by omega)⟩
  · intro hk
    have hd : t4.dead = false := by rw [d4, decide_eq_false (by omega)]
    have hb : t4.bumps = true := by simp [WS.bumps, hd, z4]
    have hp : t4.takesN 1 = min 1 (k - 272) := by
      have : k - min 272 k = k - 272 := by omega
      simp [WS.takesN, a4, p4, this]
    have ftk : ∀ n : Int, (t4.takes n).blocks = 2 ∧ (t4.takes n).lies = (fun _ => none) ∧ (t4.takes n).slots = t4.slots ∧ (t4.takes n).trace = t4.trace := by
      intro n
      unfold WS.takes
      split <;> exact ⟨bl4, l4, rfl, rfl⟩
    refine ⟨?_, ?_⟩
    · simp only [WS.bumpB, hb, Bool.true_and, hp]
      by_cases h : 272 < k
      · rw [decide_eq_true h, decide_eq_true (by omega)]
      · rw [decide_eq_false h, decide_eq_false (by omega)]
    · obtain ⟨f1, f2, f3', f4⟩ := ftk 1
      have e : t4.bump = if t4.takesN 1 = 0 then t4.takes 1 else { (t4.takes 1) with counter := t4.counter + 1 }.note 5 0 0 [] := by unfold WS.bump; rw [if_pos hb]
      rw [e]
      split
      · exact tears_tail f1 f2 (by rw [f3']; exact s4) (by rw [f3']; exact len4) (by rw [f4]; omega)
      · refine tears_tail f1 f2 ?_ ?_ ?_
        · show (t4.takes 1).slots 1 0 = _
          rw [f3']; exact s4
        · intro p s
          show ((t4.takes 1).slots p s).length = _
          rw [f3']; exact len4 p s
        · show ((t4.takes 1).trace ++ _).length ≤ 100
          rw [f4]; simp; omega

end Go.Proofs.Ytnndkameadlkdaa
