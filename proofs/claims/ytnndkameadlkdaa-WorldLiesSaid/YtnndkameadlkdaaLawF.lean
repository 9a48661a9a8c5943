/- The walk of WorldLies. -/
import Derived.Test.YtnndkameadlkdaaLawE
namespace Go.Proofs.Ytnndkameadlkdaa
open Go.RowKit

theorem LiesInv.more {t v : WS} {k i j : Int} {b : List Int} {n m : Nat} (h : LiesInv t v k i b n) (hm : n ≤ m) (hj : i = j) : LiesInv t v k j b m :=
  hj ▸ ⟨h.c1, h.c2, h.slots, h.r1, h.r2, h.l1, h.l2, Nat.le_trans h.n1 hm, Nat.le_trans h.n2 hm⟩

set_option maxRecDepth 100000 in
set_option maxHeartbeats 400000 in
theorem lies_walk (w : World) (lv av bv : Value) (l a b : List Int) (q : Int) (hl : Arg w lv l) (ha : Arg w av a) (hb : Arg w bv b) (hq : 0 ≤ q ∧ q ≤ 255) :
    Calls Try.prog 4 #[lv, .int .u8 q, av, bv] w fun e w' => e = .returned (.bool true) ∧ Evo (fun _ => False) w w' := by
  have hal := ha.len
  have hbl := hb.len
  have hll := hl.len
  obtain ⟨L, cl, rfl, hcl⟩ : ∃ A c, lv = .slice A l.length c ∧ l.length ≤ c := by obtain ⟨A, c, e, h, _⟩ := hl.src; exact ⟨A, c, e, h⟩
  obtain ⟨A, ca, rfl, hca⟩ : ∃ A c, av = .slice A a.length c ∧ a.length ≤ c := by obtain ⟨A, c, e, h, _⟩ := ha.src; exact ⟨A, c, e, h⟩
  obtain ⟨B, cb, rfl, hcb⟩ : ∃ A c, bv = .slice A b.length c ∧ b.length ≤ c := by obtain ⟨A, c, e, h, _⟩ := hb.src; exact ⟨A, c, e, h⟩
  by_cases hbig : (30 : Int) < (l.length : Int)
  · go_enter Try.func4, Try.ntmps4
    go_wp2_with fail
    refine (known_walk w).mono ?_
    rintro e w' ⟨rfl, he⟩
    go_wp2_with fail
    go_ret
    exact ⟨rfl, he⟩
  by_cases hbig2 : (600 : Int) < (a.length : Int) + (b.length : Int)
  · go_enter Try.func4, Try.ntmps4
    go_wp2_with fail
    refine (known_walk w).mono ?_
    rintro e w' ⟨rfl, he⟩
    go_wp2_with fail
    go_ret
    exact ⟨rfl, he⟩
  have hao := ha.ok (by omega)
  have hbo := hb.ok (by omega)
  have hk : 0 ≤ q % 30 ∧ q % 30 < 30 := by omega
  go_enter Try.func4, Try.ntmps4
  go_wp2_with fail
  refine (R_new 3 w).mono ?_
  rintro e w1 ⟨g1, F1, rfl, hR1, hev1, hF1⟩
  have s1 : St w w1 g1 (WS.new 3) F1 := ⟨hR1, hev1, hF1⟩
  clear hR1 hev1 hF1
  go_wp2_with fail
  refine (R_new 3 w1).mono ?_
  rintro e w2 ⟨g2, F2, rfl, hR2, hev2, hF2⟩
  have S2 : St2 w w2 g1 (WS.new 3) F1 g2 (WS.new 3) F2 := ⟨s1.turn hev2, ⟨hR2, s1.evo.two hev2, fun k hk => Nat.le_trans s1.evo.size (hF2 k hk)⟩, fun k h1 h2 => by
    have := s1.rep.lt k h1
    have := hF2 k h2
    omega⟩
  clear hR2 hev2 hF2 s1
  go_wp2_with fail
  generalize q % 30 = k at hk ⊢
  refine (R_lie S2.one.rep k _ a (ha.srcAt S2.one.evo) hao).mono ?_
  rintro e w3 ⟨F3, rfl, hg3⟩
  have S3 := S2.left hg3
  clear S2 hg3
  go_wp2_with fail
  refine (R_lie S3.one.rep k _ b (hb.srcAt S3.one.evo) hbo).mono ?_
  rintro e w4 ⟨F4, rfl, hg4⟩
  have S4 := S3.left hg4
  have I4 := lies_start k a b
  clear S3 hg4
  go_wp2_with fail
  go_loopg [12, 13, 14, 15, 16] l.length (fun g i p s x y wx => ∃ n : Nat, n ≤ l.length ∧ g = l.length - n ∧ i = .int .i64 n ∧
    ∃ tw tv FA FB, St2 w wx g1 tw FA g2 tv FB ∧ LiesInv tw tv k n b (2 * n))
  case atStart => exact ⟨0, by omega, rfl, rfl, _, _, _, _, S4, I4⟩
  case round =>
    obtain ⟨i, hi, rfl, rfl, tw, tv, FA, FB, S0, I⟩ := hrel
    clear S4 I4
    by_cases hil : i < l.length
    · have hilz : (i : Int) < (l.length : Int) := by omega
      obtain ⟨ad, rfl, hc1⟩ := (hl.srcAt S0.one.evo).at hil
      have hxm : l.getD i 0 ∈ l := by rw [List.getD_eq_getElem?_getD, List.getElem?_eq_getElem hil]; exact List.getElem_mem hil
      have hxb := hl.byt _ hxm
      have Hc : Hid (∀ w', Evo (fun _ => False) w w' → w'.cell? (ad.add i) = some (.int .u8 (l.getD i 0))) := fun w' he => by
        obtain ⟨ad', e, h⟩ := (hl.srcAt he).at hil
        cases e
        exact h
      generalize l.getD i 0 = x at *
      have hx3 : 0 ≤ x % 3 ∧ x % 3 < 3 := by omega
      have hx2 : 0 ≤ x / 3 % 2 ∧ x / 3 % 2 < 2 := by omega
      by_cases h128 : 128 ≤ x
      · have hxo : Okb [x, 7] := ⟨by simp, fun y hy => by simp at hy; rcases hy with rfl | rfl <;> omega⟩
        go_wp2_with fail
        refine (R_write (S0.alloc _).one.rep (x % 3) (x / 3 % 2) _ [x, 7] (src_alloc _ [x, 7] (0, 0)) hxo (hF_alloc S0.one [x, 7] (0, 0)) (by have := I.n1; omega)).mono ?_
        rintro e wa ⟨Fa, rfl, hga⟩
        have Sa := (S0.alloc _).left hga
        clear hga
        have hc2 := Hc.out _ Sa.one.evo
        go_wp2_with fail
        refine (R_write (Sa.alloc _).two.rep (x % 3) (x / 3 % 2) _ [x, 7] (src_alloc _ [x, 7] (0, 0)) hxo (hF_alloc Sa.two [x, 7] (0, 0)) (by have := I.n2; omega)).mono ?_
        rintro e wb ⟨Fb, rfl, hgb⟩
        have S := (Sa.alloc _).right hgb
        have I := I.write hx3 hx2 [x, 7]
        clear hgb Sa hc1 hc2
        clear S0
        have S0 := S
        generalize tw.write (x % 3) (x / 3 % 2) [x, 7] = tw at *
        generalize tv.write (x % 3) (x / 3 % 2) [x, 7] = tv at *
        go_wp2_with fail
        refine (R_read S.one.rep (x % 3) (x / 3 % 2) (by have := I.n1; omega)).mono ?_
        rintro e w5 ⟨v5, F5, rfl, hr5, hg5⟩
        obtain ⟨I', e2, e1⟩ := I.read hx3 hx2
        rw [e1] at hr5
        have S5 := S.left hg5
        have hm5 := hr5.beside S.one.evo S.two.rep.lt
        go_wp2_with fail
        refine (R_read S5.two.rep (x % 3) (x / 3 % 2) (by have := I.n2; omega)).mono ?_
        rintro e w6 ⟨v6, F6, rfl, hr6, hg6⟩
        rw [e2] at hr6
        have S6 := S5.right hg6
        have hm6 := hr6.mine S5.one.evo
        have hm5 := hm5.goes hg6
        have hyb : Byt (tv.slots (x % 3) (x / 3 % 2)) := (calm_slots_okb S0.two.rep _ _).2
        by_cases hik : (i : Int) = k
        · rw [if_pos hik] at hm5
          obtain ⟨A5, c5, rfl, hc5⟩ := hm5.form rfl
          obtain ⟨A6, c6, rfl, hc6⟩ := hm6.form rfl
          have hikb : ((i : Int) == k) = true := by simpa using hik
          have hikn : ((i : Int) != k) = false := by simpa using hik
          have hsame := same_walk _ _ b b w6 hm5.src (hb.srcAt S6.one.evo) hbo.2 hbo.2
          rw [decide_eq_true rfl] at hsame
          go_wp2_with fail
          refine hsame.mono ?_
          rintro e w' ⟨rfl, rfl⟩
          go_wp2
          go_roundg (l.length - (i + 1))
          case measure => omega
          case rel => exact ⟨i + 1, by omega, rfl, by first | rfl | (simp; omega) | simp, _, _, _, _, S6, I'.more (by omega) (by simp)⟩
        · rw [if_neg hik] at hm5
          obtain ⟨A5, c5, rfl, hc5⟩ := hm5.form rfl
          obtain ⟨A6, c6, rfl, hc6⟩ := hm6.form rfl
          have hikb : ((i : Int) == k) = false := by simpa using hik
          have hikn : ((i : Int) != k) = true := by simpa using hik
          have hsame := same_walk _ _ _ _ w6 hm5.src hm6.src hyb hyb
          rw [decide_eq_true rfl] at hsame
          go_wp2_with fail
          refine hsame.mono ?_
          rintro e w' ⟨rfl, rfl⟩
          go_wp2
          go_roundg (l.length - (i + 1))
          case measure => omega
          case rel => exact ⟨i + 1, by omega, rfl, by first | rfl | (simp; omega) | simp, _, _, _, _, S6, I'.more (by omega) (by simp)⟩
      · have S := S0
        go_wp2_with fail
        refine (R_read S.one.rep (x % 3) (x / 3 % 2) (by have := I.n1; omega)).mono ?_
        rintro e w5 ⟨v5, F5, rfl, hr5, hg5⟩
        obtain ⟨I', e2, e1⟩ := I.read hx3 hx2
        rw [e1] at hr5
        have S5 := S.left hg5
        have hm5 := hr5.beside S.one.evo S.two.rep.lt
        go_wp2_with fail
        refine (R_read S5.two.rep (x % 3) (x / 3 % 2) (by have := I.n2; omega)).mono ?_
        rintro e w6 ⟨v6, F6, rfl, hr6, hg6⟩
        rw [e2] at hr6
        have S6 := S5.right hg6
        have hm6 := hr6.mine S5.one.evo
        have hm5 := hm5.goes hg6
        have hyb : Byt (tv.slots (x % 3) (x / 3 % 2)) := (calm_slots_okb S0.two.rep _ _).2
        by_cases hik : (i : Int) = k
        · rw [if_pos hik] at hm5
          obtain ⟨A5, c5, rfl, hc5⟩ := hm5.form rfl
          obtain ⟨A6, c6, rfl, hc6⟩ := hm6.form rfl
          have hikb : ((i : Int) == k) = true := by simpa using hik
          have hikn : ((i : Int) != k) = false := by simpa using hik
          have hsame := same_walk _ _ b b w6 hm5.src (hb.srcAt S6.one.evo) hbo.2 hbo.2
          rw [decide_eq_true rfl] at hsame
          go_wp2_with fail
          refine hsame.mono ?_
          rintro e w' ⟨rfl, rfl⟩
          go_wp2
          go_roundg (l.length - (i + 1))
          case measure => omega
          case rel => exact ⟨i + 1, by omega, rfl, by first | rfl | (simp; omega) | simp, _, _, _, _, S6, I'.more (by omega) (by simp)⟩
        · rw [if_neg hik] at hm5
          obtain ⟨A5, c5, rfl, hc5⟩ := hm5.form rfl
          obtain ⟨A6, c6, rfl, hc6⟩ := hm6.form rfl
          have hikb : ((i : Int) == k) = false := by simpa using hik
          have hikn : ((i : Int) != k) = true := by simpa using hik
          have hsame := same_walk _ _ _ _ w6 hm5.src hm6.src hyb hyb
          rw [decide_eq_true rfl] at hsame
          go_wp2_with fail
          refine hsame.mono ?_
          rintro e w' ⟨rfl, rfl⟩
          go_wp2
          go_roundg (l.length - (i + 1))
          case measure => omega
          case rel => exact ⟨i + 1, by omega, rfl, by first | rfl | (simp; omega) | simp, _, _, _, _, S6, I'.more (by omega) (by simp)⟩
    · obtain rfl : i = l.length := by omega
      go_wp2_with fail
      refine (known_walk _).mono ?_
      rintro e w' ⟨rfl, he⟩
      go_wp2_with fail
      go_ret
      exact ⟨rfl, S0.one.evo.two he⟩

end Go.Proofs.Ytnndkameadlkdaa
