/- The walk of AuditMinus. -/
import Derived.Test.YtelljdkcgipkkaaKo
namespace Go.Proofs.Ytelljdkcgipkkaa
open Go.RowKit

/-- Items that came in. -/
structure ArgI (w : World) (v : Value) (xs : List ItD) : Prop where
  src : Src w 2 v xs.length (xs.flatMap ItD.cells)
  each : ∀ x ∈ xs, Src w 1 x.bv x.b.length (bys x.b) ∧ Byt x.b ∧ x.b.length ≤ 140737488355328
  len : xs.length ≤ 140737488355328

def sumI : List ItD → Nat
  | [] => 0
  | x :: r => x.b.length + sumI r
theorem sumI_take (xs : List ItD) (i : Nat) (hi : i < xs.length) : sumI (xs.take (i + 1)) = sumI (xs.take i) + (xs[i]).b.length := by
  induction xs generalizing i with
  | nil => simp at hi
  | cons d ds ih =>
    cases i with
    | zero => simp [sumI]
    | succ i =>
      simp only [List.take_succ_cons, sumI, List.getElem_cons_succ]
      rw [ih i (by simpa using hi)]
      omega
theorem sumI_le (xs : List ItD) (k : Nat) (h : ∀ d ∈ xs, d.b.length ≤ k) : sumI xs ≤ xs.length * k := by
  induction xs with
  | nil => simp [sumI]
  | cons d ds ih =>
    have h1 := h d (by simp)
    have h2 := ih (fun x hx => h x (by simp [hx]))
    simp only [sumI, List.length_cons, Nat.add_mul]
    omega
theorem sumI_each {xs : List ItD} {x : ItD} (h : x ∈ xs) : x.b.length ≤ sumI xs := by
  induction xs with
  | nil => cases h
  | cons y ys ih =>
    rcases List.mem_cons.1 h with rfl | h
    · simp only [sumI]; omega
    · have := ih h; simp only [sumI]; omega
theorem ArgI.at {w : World} {A : Option Addr} {n c : Nat} {xs : List ItD} (h : ArgI w (.slice A n c) xs) {i : Nat} (hi : i < xs.length) : ∃ b o B d, A = some ⟨b, o, none⟩ ∧ w.cell? ⟨b, o + i * 2 + 1, none⟩ = some (.slice B (xs[i]).b.length d) := by
  obtain ⟨⟨A', c', e, hnc, hl, hc⟩, h2, _⟩ := h
  cases e
  have h0 := itCells_at xs 0 0 (by omega) (by omega)
  obtain ⟨⟨b, o, sp⟩, rfl, h0⟩ := hc (0 * 2 + 0) _ h0
  have hsp : sp = none := World.cell?_spot h0
  subst hsp
  obtain ⟨ad', e, h⟩ := hc (i * 2 + 1) (xs[i]).bv (by rw [itCells_at xs i 1 hi (by omega)]; rfl)
  cases e
  have e2 : ((⟨b, o, none⟩ : Addr).add (i * 2 + 1)) = ⟨b, o + i * 2 + 1, none⟩ := by
    unfold Addr.add
    split
    · omega
    · rw [Nat.add_assoc]
  rw [e2] at h
  obtain ⟨B, d, e, _⟩ := (h2 _ (List.getElem_mem hi)).1
  exact ⟨b, o, B, d, rfl, by rw [h, e]⟩

set_option maxRecDepth 100000 in
set_option maxHeartbeats 1000000 in
theorem auditMinus_walk (w : World) (va vb : Value) (xs ys : List ItD) (ha : ArgI w va xs) (hb : ArgI w vb ys) :
    Calls Try.prog 3 #[va, vb] w fun e w' => e = .returned (.bool true) ∧ Evo (fun _ => False) w w' := by
  have hxl := ha.len
  have hyl := hb.len
  obtain ⟨A, ca, rfl, hca⟩ : ∃ A c, va = .slice A xs.length c ∧ xs.length ≤ c := by obtain ⟨A, c, e, h, _⟩ := ha.src; exact ⟨A, c, e, h⟩
  obtain ⟨B, cb, rfl, hcb⟩ : ∃ A c, vb = .slice A ys.length c ∧ ys.length ≤ c := by obtain ⟨A, c, e, h, _⟩ := hb.src; exact ⟨A, c, e, h⟩
  by_cases hbig : (40 : Int) < (xs.length : Int) + (ys.length : Int)
  · go_enter Try.func3, Try.ntmps3
    go_wp2_with fail
    refine (known_walk w).mono ?_
    rintro e w' ⟨rfl, he⟩
    go_wp2_with fail
    go_ret
    exact ⟨rfl, he⟩
  have hsx : ∀ k, sumI (xs.take k) ≤ 5629499534213120 := fun k => Nat.le_trans (sumI_le _ 140737488355328 (fun d hd => (ha.each d (List.mem_of_mem_take hd)).2.2)) (Nat.le_trans (Nat.mul_le_mul_right _ (by rw [List.length_take]; omega : (xs.take k).length ≤ 40)) (by decide))
  have hsy : ∀ k, sumI (ys.take k) ≤ 5629499534213120 := fun k => Nat.le_trans (sumI_le _ 140737488355328 (fun d hd => (hb.each d (List.mem_of_mem_take hd)).2.2)) (Nat.le_trans (Nat.mul_le_mul_right _ (by rw [List.length_take]; omega : (ys.take k).length ≤ 40)) (by decide))
  have Hsx := Lib.hid hsx
  have Hsy := Lib.hid hsy
  clear hsx hsy
  go_enter Try.func3, Try.ntmps3
  go_wp2_with fail
  go_loopg [5, 6] xs.length (fun g s i wx => ∃ k : Nat, k ≤ xs.length ∧ g = xs.length - k ∧ i = .int .i64 k ∧ s = .int .i64 (sumI (xs.take k)) ∧ w = wx)
  case atStart => exact ⟨0, by omega, rfl, rfl, rfl, rfl⟩
  case round =>
    obtain ⟨k, hk, rfl, rfl, rfl, rfl⟩ := hrel
    by_cases hkl : k < xs.length
    · have hkz : (k : Int) < (xs.length : Int) := by omega
      obtain ⟨pb, po, V, cv, rfl, hcell⟩ := ha.at hkl
      have hs := Hsx.out k
      have hbl := (ha.each _ (List.getElem_mem hkl)).2.2
      have hst := sumI_take xs k hkl
      go_wp2
      go_roundg (xs.length - (k + 1))
      case measure => omega
      case rel =>
        refine ⟨k + 1, by omega, rfl, by first | rfl | simp, ?_, rfl⟩
        rw [hst]
        congr 1
    · obtain rfl : k = xs.length := by omega
      rw [List.take_length]
      have hsX := Hsx.out xs.length
      rw [List.take_length] at hsX
      go_wp2_with fail
      go_loopg [5, 7] ys.length (fun g s i wx => ∃ k : Nat, k ≤ ys.length ∧ g = ys.length - k ∧ i = .int .i64 k ∧ s = .int .i64 ((sumI xs : Int) + (sumI (ys.take k) : Int)) ∧ w = wx)
      case atStart => exact ⟨0, by omega, rfl, rfl, by simp [sumI], rfl⟩
      case round =>
        obtain ⟨k, hk, rfl, rfl, rfl, rfl⟩ := hrel
        by_cases hkl : k < ys.length
        · have hkz : (k : Int) < (ys.length : Int) := by omega
          obtain ⟨pb, po, V, cv, rfl, hcell⟩ := hb.at hkl
          have hs := Hsy.out k
          have hbl := (hb.each _ (List.getElem_mem hkl)).2.2
          have hst := sumI_take ys k hkl
          go_wp2
          go_roundg (ys.length - (k + 1))
          case measure => omega
          case rel =>
            refine ⟨k + 1, by omega, rfl, by first | rfl | simp, ?_, rfl⟩
            rw [hst]
            congr 1
            simp
            omega
        · obtain rfl : k = ys.length := by omega
          rw [List.take_length]
          by_cases hn : (1500 : Int) < (sumI xs : Int) + (sumI ys : Int)
          · go_wp2_with fail
            refine (known_walk w).mono ?_
            rintro e w' ⟨rfl, he⟩
            go_wp2_with fail
            go_ret
            exact ⟨rfl, he⟩
          · have iA : ItSrc w (.slice A xs.length ca) xs := ⟨ha.src, fun x hx => ⟨(ha.each x hx).1, (ha.each x hx).2.1, by have := sumI_each hx; omega⟩⟩
            have iB : ItSrc w (.slice B ys.length cb) ys := ⟨hb.src, fun x hx => ⟨(hb.each x hx).1, (hb.each x hx).2.1, by have := sumI_each hx; omega⟩⟩
            have iN : ∀ w', ItSrc w' (.slice none 0 0) [] := fun w' => ⟨⟨none, 0, rfl, Nat.le_refl _, rfl, fun j u hu => (by cases hu)⟩, fun x hx => (by cases hx)⟩
            have p1 := minus_parts (xs.map ItD.key) (ys.map ItD.key)
            have p2 := minus_other (xs.map ItD.key) (ys.map ItD.key)
            have p3 := minus_self (xs.map ItD.key)
            have p4 := minus_nil (xs.map ItD.key)
            rw [List.length_map] at p1 p2 p4
            go_wp2_with fail
            refine (minus_walk w _ _ xs ys iA iB (by omega) (by omega)).mono ?_
            rintro e w1 ⟨v1, z1, rfl, e1, i1, k1⟩
            obtain ⟨A1, c1, rfl, _⟩ := i1.form
            have hl1 : Hid (z1.length = (minusL (xs.map ItD.key) (ys.map ItD.key)).length) := by
              show z1.length = _
              rw [← k1, List.length_map]
            have hz1 : z1.length ≤ 1000 := by have := hl1.out; omega
            have P1 := Lib.hid p1
            have P2 := Lib.hid p2
            have P3 := Lib.hid p3
            have P4 := Lib.hid p4
            clear p1 p2 p3 p4
            go_wp2_with fail
            refine (minus_walk w1 _ _ xs z1 (iA.evo0 e1) i1 (by omega) hz1).mono ?_
            rintro e w2 ⟨v2, z2, rfl, e2, i2, k2⟩
            obtain ⟨A2, c2, rfl, _⟩ := i2.form
            rw [k1] at k2
            go_wp2_with fail
            refine (minus_walk w2 _ _ ys xs ((iB.evo0 e1).evo0 e2) ((iA.evo0 e1).evo0 e2) (by omega) (by omega)).mono ?_
            rintro e w3 ⟨v3, z3, rfl, e3, i3, k3⟩
            obtain ⟨A3, c3, rfl, _⟩ := i3.form
            have l2 : z2.length = (minusL (xs.map ItD.key) (minusL (xs.map ItD.key) (ys.map ItD.key))).length := by rw [← k2, List.length_map]
            have l3 : z3.length = (minusL (ys.map ItD.key) (xs.map ItD.key)).length := by rw [← k3, List.length_map]
            have l1 := hl1.out
            have p1 := P1.out
            have p2 := P2.out
            have q1 : (z1.length : Int) + (z2.length : Int) = (xs.length : Int) := by omega
            have q2 : (z2.length : Int) + (z3.length : Int) = (ys.length : Int) := by omega
            have e03 := (e1.two e2).two e3
            have hM4 := minus_walk w3 _ _ xs xs (iA.evo0 e03) (iA.evo0 e03) (by omega) (by omega)
            clear l1 l2 l3 p1 p2 k1 k2 k3 i1 i2 i3
            go_wp2_with fail
            refine hM4.mono ?_
            rintro e w4 ⟨v4, z4, rfl, e4, i4, k4⟩
            have l4 : z4.length = 0 := by rw [← List.length_map (f := ItD.key), k4]; exact P3.out
            obtain ⟨A4, c4, rfl, _⟩ := i4.form
            rw [l4]
            have hM5 := minus_walk w4 _ _ xs [] (iA.evo0 (e03.two e4)) (iN w4) (by omega) (by simp)
            go_wp2_with fail
            refine hM5.mono ?_
            rintro e w5 ⟨v5, z5, rfl, e5, i5, k5⟩
            have l5 : z5.length = xs.length := by rw [← List.length_map (f := ItD.key), k5]; exact P4.out
            obtain ⟨A5, c5, rfl, _⟩ := i5.form
            rw [l5]
            go_wp2_with fail
            refine (known_walk _).mono ?_
            rintro e w' ⟨rfl, he⟩
            go_wp2_with fail
            go_ret
            exact ⟨rfl, ((e03.two e4).two e5).two he⟩

end Go.Proofs.Ytelljdkcgipkkaa
