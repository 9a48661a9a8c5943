/- The walk of WorldTears. -/
import Derived.Test.YtnndkameadlkdaaLawG
namespace Go.Proofs.Ytnndkameadlkdaa
open Go.RowKit

set_option maxRecDepth 100000 in
set_option maxHeartbeats 400000 in
theorem tears_walk (w : World) (av bv : Value) (a b : List Int) (q : Int) (ha : Arg w av a) (hb : Arg w bv b) (hq : 0 ≤ q ∧ q ≤ 65535) :
    Calls Try.prog 5 #[av, bv, .int .u16 q] w fun e w' => e = .returned (.bool true) ∧ Evo (fun _ => False) w w' := by
  have hal := ha.len
  have hbl := hb.len
  obtain ⟨A, ca, rfl, hca⟩ : ∃ A c, av = .slice A a.length c ∧ a.length ≤ c := by obtain ⟨A, c, e, h, _⟩ := ha.src; exact ⟨A, c, e, h⟩
  obtain ⟨B, cb, rfl, hcb⟩ : ∃ A c, bv = .slice A b.length c ∧ b.length ≤ c := by obtain ⟨A, c, e, h, _⟩ := hb.src; exact ⟨A, c, e, h⟩
  by_cases hbig : (800 : Int) < (a.length : Int) + (b.length : Int)
  · go_enter Try.func5, Try.ntmps5
    go_wp2_with fail
    refine (known_walk w).mono ?_
    rintro e w' ⟨rfl, he⟩
    go_wp2_with fail
    go_ret
    exact ⟨rfl, he⟩
  · have hao := ha.ok (by omega)
    have hbo := hb.ok (by omega)
    have hk : 0 ≤ q % 300 ∧ q % 300 < 300 := by omega
    go_enter Try.func5, Try.ntmps5
    go_wp2_with fail
    refine (R_new 2 w).mono ?_
    rintro e w1 ⟨g, F1, rfl, hR1, hev1, hF1⟩
    have S : St w w1 g (WS.new 2) F1 := ⟨hR1, hev1, hF1⟩
    clear hR1 hev1 hF1
    have D := tears_data a b (q % 300) hk.1 hk.2
    generalize ht1 : (WS.new 2).write 1 0 a = t1 at *
    generalize ht2 : t1.read 1 0 = t2 at *
    generalize ht3 : t2.arm (q % 300) = t3 at *
    generalize ht4 : t3.write 1 0 b = t4 at *
    go_wp2_with fail
    refine (R_write S.rep 1 0 _ a (ha.srcAt S.evo) hao (ha.hF S) (by simp [WS.new])).mono ?_
    rintro e w2 ⟨F2, rfl, hg2⟩
    rw [ht1] at hg2
    have S := S.goes hg2
    clear hg2
    go_wp2_with fail
    refine (R_read S.rep 1 0 D.n1).mono ?_
    rintro e w3 ⟨x, F3, rfl, hx, hg3⟩
    rw [D.r1] at hx
    rw [ht2] at hg3
    have hx := hx.mine S.evo
    have S := S.goes hg3
    obtain ⟨X0, cx, rfl, hcx⟩ := hx.form (pad_len a)
    clear hg3
    go_wp2_with fail
    refine (R_arm S.rep (q % 300)).mono ?_
    rintro e w4 ⟨rfl, hg4⟩
    rw [ht3] at hg4
    have hx := hx.goes hg4
    have S := S.goes hg4
    clear hg4
    go_wp2_with fail
    generalize q % 300 = k at *
    refine (R_write S.rep 1 0 _ b (hb.srcAt S.evo) hbo (hb.hF S) D.n3).mono ?_
    rintro e w5 ⟨F5, rfl, hg5⟩
    rw [ht4] at hg5
    have hx := hx.goes hg5
    have S := S.goes hg5
    clear hg5 ht1 ht2 ht3 ht4
    by_cases hlow : k < 272
    · obtain ⟨D1, D2, D3, D4, D5, D6, D7, T⟩ := D.low hlow
      have hd4 := D.d4
      rw [decide_eq_true hlow] at hd4
      have hw3 := D.w3
      rw [decide_eq_false (by omega)] at hw3
      rw [hw3]
      go_wp2_with fail
      refine (R_dead S.rep).mono ?_
      rintro e w' ⟨rfl, rfl⟩
      rw [hd4]
      go_wp2_with fail
      refine (R_bump S.rep D.n4).mono ?_
      rintro e w7 ⟨F7, rfl, hg7⟩
      rw [D1]
      rw [D2] at hg7
      have hx := hx.goes hg7
      have S := S.goes hg7
      clear hg7
      go_wp2_with fail
      refine (R_write S.rep 0 0 _ b (hb.srcAt S.evo) hbo (hb.hF S) D.n4).mono ?_
      rintro e w7 ⟨F7, rfl, hg7⟩
      rw [D3]
      rw [D4] at hg7
      have hx := hx.goes hg7
      have S := S.goes hg7
      clear hg7
      go_wp2_with fail
      refine (R_read S.rep 1 0 D.n4).mono ?_
      rintro e w7 ⟨y, F7, rfl, hy, hg7⟩
      rw [D5] at hy
      rw [D6] at hg7
      have hx := hx.goes hg7
      obtain ⟨Y, cy, rfl, hcy⟩ := (hy.mine S.evo).form rfl
      have S := S.goes hg7
      clear hg7 hy hcy
      go_wp2_with fail
      refine (R_counter S.rep).mono ?_
      rintro e w' ⟨rfl, rfl⟩
      rw [D7]
      clear D D1 D2 D3 D4 D5 D6 D7
      -- S : St w W g X F · hx : Mine w W F (.slice X0 272 cx) (WS.pad a) · T : TearsTail X a b k
      go_wp2_with fail
      refine (R_restart S.rep).mono ?_
      rintro e w8 ⟨rfl, hg8⟩
      have hx := hx.goes hg8
      have S := S.goes hg8
      clear hg8
      go_wp2_with fail
      refine (R_read S.rep 1 0 T.n0).mono ?_
      rintro e w9 ⟨y, F9, rfl, hy, hg9⟩
      rw [T.r] at hy
      have hy := hy.mine S.evo
      have hx := hx.goes hg9
      have S := S.goes hg9
      clear hg9
      obtain ⟨Y0, cy, rfl, hcy⟩ := hy.form (over_len2 k (pad_len a) (pad_len b))
      have hxs := hx.src
      have hys := hy.src
      rw [pad_len] at hxs
      rw [over_len2 k (pad_len a) (pad_len b)] at hys
      have Hx : Hid (∀ i, i < 272 → ∃ ad, X0 = some ad ∧ w9.cell? (ad.add i) = some (.int .u8 ((WS.pad a).getD i 0))) := fun i hi => hxs.at hi
      have Hy : Hid (∀ i, i < 272 → ∃ ad, Y0 = some ad ∧ w9.cell? (ad.add i) = some (.int .u8 (if k ≤ (i : Int) then (WS.pad a).getD i 0 else (WS.pad b).getD i 0))) := fun i hi => by
        rw [← over_get (WS.pad a) (WS.pad b) k hk.1 (pad_len a) (pad_len b) i hi]
        exact hys.at hi
      have Hb : Hid (∀ i, i < b.length → ∃ ad, B = some ad ∧ w9.cell? (ad.add i) = some (.int .u8 (b.getD i 0))) := fun i hi => (hb.srcAt S.evo).at hi
      clear hxs hys hx hy
      go_wp2_with fail
      go_loopg [13, 14] 272 (fun g i c wx => ∃ n : Nat, n ≤ 272 ∧ g = 272 - n ∧ i = .int .i64 n ∧ w9 = wx)
      case atStart => exact ⟨0, by omega, rfl, rfl, rfl⟩
      case round =>
        obtain ⟨i, hi, rfl, rfl, rfl⟩ := hrel
        by_cases hi2 : i < 272
        · have hiz : (i : Int) < 272 := by omega
          obtain ⟨ad, rfl, hc1⟩ := Hx.out i hi2
          obtain ⟨ad2, rfl, hc2⟩ := Hy.out i hi2
          by_cases hki : k ≤ (i : Int)
          · rw [if_pos hki] at hc2
            by_cases hib : i < b.length
            · have hibz : (i : Int) < (b.length : Int) := by omega
              obtain ⟨ad3, rfl, hc3⟩ := Hb.out i hib
              go_wp2
              go_roundg (272 - (i + 1))
              case measure => omega
              case rel => exact ⟨i + 1, by omega, rfl, by first | rfl | simp, rfl⟩
            · have hibz : ¬ (i : Int) < (b.length : Int) := by omega
              go_wp2
              go_roundg (272 - (i + 1))
              case measure => omega
              case rel => exact ⟨i + 1, by omega, rfl, by first | rfl | simp, rfl⟩
          · rw [if_neg hki, pad_get b i hi2] at hc2
            by_cases hib : i < b.length
            · have hibz : (i : Int) < (b.length : Int) := by omega
              obtain ⟨ad3, rfl, hc3⟩ := Hb.out i hib
              rw [if_pos hib] at hc2
              go_wp2
              go_roundg (272 - (i + 1))
              case measure => omega
              case rel => exact ⟨i + 1, by omega, rfl, by first | rfl | simp, rfl⟩
            · have hibz : ¬ (i : Int) < (b.length : Int) := by omega
              rw [if_neg hib] at hc2
              go_wp2
              go_roundg (272 - (i + 1))
              case measure => omega
              case rel => exact ⟨i + 1, by omega, rfl, by first | rfl | simp, rfl⟩
        · obtain rfl : i = 272 := by omega
          go_wp2_with fail
          refine (R_dead S.rep).mono ?_
          rintro e w' ⟨rfl, rfl⟩
          rw [T.d]
          go_wp2_with fail
          refine (R_write S.rep 0 0 _ b (hb.srcAt S.evo) hbo (hb.hF S) T.n1).mono ?_
          rintro e w10 ⟨F10, rfl, hg10⟩
          rw [T.w]
          have S := S.goes hg10
          go_wp2_with fail
          refine (known_walk _).mono ?_
          rintro e w' ⟨rfl, he⟩
          go_wp2_with fail
          go_ret
          exact ⟨rfl, S.evo.two he⟩
    · by_cases heq : k = 272
      · have hklt : ¬ (272 : Int) < k := by omega
        have hkge : (272 : Int) ≤ k := by omega
        obtain ⟨Db, T⟩ := D.high (by omega)
        have hd4 := D.d4
        rw [decide_eq_false (by omega)] at hd4
        have hw3 := D.w3
        rw [decide_eq_true (by omega)] at hw3
        rw [hw3]
        go_wp2_with fail
        refine (R_dead S.rep).mono ?_
        rintro e w' ⟨rfl, rfl⟩
        rw [hd4]
        go_wp2_with fail
        refine (R_bump S.rep D.n4).mono ?_
        rintro e w7 ⟨F7, rfl, hg7⟩
        have hx := hx.goes hg7
        have S := S.goes hg7
        clear hg7
        rw [Db, decide_eq_false (by omega)]
        clear D Db
        -- S : St w W g X F · hx : Mine w W F (.slice X0 272 cx) (WS.pad a) · T : TearsTail X a b k
        go_wp2_with fail
        refine (R_restart S.rep).mono ?_
        rintro e w8 ⟨rfl, hg8⟩
        have hx := hx.goes hg8
        have S := S.goes hg8
        clear hg8
        go_wp2_with fail
        refine (R_read S.rep 1 0 T.n0).mono ?_
        rintro e w9 ⟨y, F9, rfl, hy, hg9⟩
        rw [T.r] at hy
        have hy := hy.mine S.evo
        have hx := hx.goes hg9
        have S := S.goes hg9
        clear hg9
        obtain ⟨Y0, cy, rfl, hcy⟩ := hy.form (over_len2 k (pad_len a) (pad_len b))
        have hxs := hx.src
        have hys := hy.src
        rw [pad_len] at hxs
        rw [over_len2 k (pad_len a) (pad_len b)] at hys
        have Hx : Hid (∀ i, i < 272 → ∃ ad, X0 = some ad ∧ w9.cell? (ad.add i) = some (.int .u8 ((WS.pad a).getD i 0))) := fun i hi => hxs.at hi
        have Hy : Hid (∀ i, i < 272 → ∃ ad, Y0 = some ad ∧ w9.cell? (ad.add i) = some (.int .u8 (if k ≤ (i : Int) then (WS.pad a).getD i 0 else (WS.pad b).getD i 0))) := fun i hi => by
          rw [← over_get (WS.pad a) (WS.pad b) k hk.1 (pad_len a) (pad_len b) i hi]
          exact hys.at hi
        have Hb : Hid (∀ i, i < b.length → ∃ ad, B = some ad ∧ w9.cell? (ad.add i) = some (.int .u8 (b.getD i 0))) := fun i hi => (hb.srcAt S.evo).at hi
        clear hxs hys hx hy
        go_wp2_with fail
        go_loopg [13, 14] 272 (fun g i c wx => ∃ n : Nat, n ≤ 272 ∧ g = 272 - n ∧ i = .int .i64 n ∧ w9 = wx)
        case atStart => exact ⟨0, by omega, rfl, rfl, rfl⟩
        case round =>
          obtain ⟨i, hi, rfl, rfl, rfl⟩ := hrel
          by_cases hi2 : i < 272
          · have hiz : (i : Int) < 272 := by omega
            obtain ⟨ad, rfl, hc1⟩ := Hx.out i hi2
            obtain ⟨ad2, rfl, hc2⟩ := Hy.out i hi2
            by_cases hki : k ≤ (i : Int)
            · exact absurd hki (by omega)
            · rw [if_neg hki, pad_get b i hi2] at hc2
              by_cases hib : i < b.length
              · have hibz : (i : Int) < (b.length : Int) := by omega
                obtain ⟨ad3, rfl, hc3⟩ := Hb.out i hib
                rw [if_pos hib] at hc2
                go_wp2
                go_roundg (272 - (i + 1))
                case measure => omega
                case rel => exact ⟨i + 1, by omega, rfl, by first | rfl | simp, rfl⟩
              · have hibz : ¬ (i : Int) < (b.length : Int) := by omega
                rw [if_neg hib] at hc2
                go_wp2
                go_roundg (272 - (i + 1))
                case measure => omega
                case rel => exact ⟨i + 1, by omega, rfl, by first | rfl | simp, rfl⟩
          · obtain rfl : i = 272 := by omega
            go_wp2_with fail
            refine (R_dead S.rep).mono ?_
            rintro e w' ⟨rfl, rfl⟩
            rw [T.d]
            go_wp2_with fail
            refine (R_write S.rep 0 0 _ b (hb.srcAt S.evo) hbo (hb.hF S) T.n1).mono ?_
            rintro e w10 ⟨F10, rfl, hg10⟩
            rw [T.w]
            have S := S.goes hg10
            go_wp2_with fail
            refine (known_walk _).mono ?_
            rintro e w' ⟨rfl, he⟩
            go_wp2_with fail
            go_ret
            exact ⟨rfl, S.evo.two he⟩
      · have hklt : (272 : Int) < k := by omega
        have hkge : (272 : Int) ≤ k := by omega
        obtain ⟨Db, T⟩ := D.high (by omega)
        have hd4 := D.d4
        rw [decide_eq_false (by omega)] at hd4
        have hw3 := D.w3
        rw [decide_eq_true (by omega)] at hw3
        rw [hw3]
        go_wp2_with fail
        refine (R_dead S.rep).mono ?_
        rintro e w' ⟨rfl, rfl⟩
        rw [hd4]
        go_wp2_with fail
        refine (R_bump S.rep D.n4).mono ?_
        rintro e w7 ⟨F7, rfl, hg7⟩
        have hx := hx.goes hg7
        have S := S.goes hg7
        clear hg7
        rw [Db, decide_eq_true hklt]
        clear D Db
        -- S : St w W g X F · hx : Mine w W F (.slice X0 272 cx) (WS.pad a) · T : TearsTail X a b k
        go_wp2_with fail
        refine (R_restart S.rep).mono ?_
        rintro e w8 ⟨rfl, hg8⟩
        have hx := hx.goes hg8
        have S := S.goes hg8
        clear hg8
        go_wp2_with fail
        refine (R_read S.rep 1 0 T.n0).mono ?_
        rintro e w9 ⟨y, F9, rfl, hy, hg9⟩
        rw [T.r] at hy
        have hy := hy.mine S.evo
        have hx := hx.goes hg9
        have S := S.goes hg9
        clear hg9
        obtain ⟨Y0, cy, rfl, hcy⟩ := hy.form (over_len2 k (pad_len a) (pad_len b))
        have hxs := hx.src
        have hys := hy.src
        rw [pad_len] at hxs
        rw [over_len2 k (pad_len a) (pad_len b)] at hys
        have Hx : Hid (∀ i, i < 272 → ∃ ad, X0 = some ad ∧ w9.cell? (ad.add i) = some (.int .u8 ((WS.pad a).getD i 0))) := fun i hi => hxs.at hi
        have Hy : Hid (∀ i, i < 272 → ∃ ad, Y0 = some ad ∧ w9.cell? (ad.add i) = some (.int .u8 (if k ≤ (i : Int) then (WS.pad a).getD i 0 else (WS.pad b).getD i 0))) := fun i hi => by
          rw [← over_get (WS.pad a) (WS.pad b) k hk.1 (pad_len a) (pad_len b) i hi]
          exact hys.at hi
        have Hb : Hid (∀ i, i < b.length → ∃ ad, B = some ad ∧ w9.cell? (ad.add i) = some (.int .u8 (b.getD i 0))) := fun i hi => (hb.srcAt S.evo).at hi
        clear hxs hys hx hy
        go_wp2_with fail
        go_loopg [13, 14] 272 (fun g i c wx => ∃ n : Nat, n ≤ 272 ∧ g = 272 - n ∧ i = .int .i64 n ∧ w9 = wx)
        case atStart => exact ⟨0, by omega, rfl, rfl, rfl⟩
        case round =>
          obtain ⟨i, hi, rfl, rfl, rfl⟩ := hrel
          by_cases hi2 : i < 272
          · have hiz : (i : Int) < 272 := by omega
            obtain ⟨ad, rfl, hc1⟩ := Hx.out i hi2
            obtain ⟨ad2, rfl, hc2⟩ := Hy.out i hi2
            by_cases hki : k ≤ (i : Int)
            · exact absurd hki (by omega)
            · rw [if_neg hki, pad_get b i hi2] at hc2
              by_cases hib : i < b.length
              · have hibz : (i : Int) < (b.length : Int) := by omega
                obtain ⟨ad3, rfl, hc3⟩ := Hb.out i hib
                rw [if_pos hib] at hc2
                go_wp2
                go_roundg (272 - (i + 1))
                case measure => omega
                case rel => exact ⟨i + 1, by omega, rfl, by first | rfl | simp, rfl⟩
              · have hibz : ¬ (i : Int) < (b.length : Int) := by omega
                rw [if_neg hib] at hc2
                go_wp2
                go_roundg (272 - (i + 1))
                case measure => omega
                case rel => exact ⟨i + 1, by omega, rfl, by first | rfl | simp, rfl⟩
          · obtain rfl : i = 272 := by omega
            go_wp2_with fail
            refine (R_dead S.rep).mono ?_
            rintro e w' ⟨rfl, rfl⟩
            rw [T.d]
            go_wp2_with fail
            refine (R_write S.rep 0 0 _ b (hb.srcAt S.evo) hbo (hb.hF S) T.n1).mono ?_
            rintro e w10 ⟨F10, rfl, hg10⟩
            rw [T.w]
            have S := S.goes hg10
            go_wp2_with fail
            refine (known_walk _).mono ?_
            rintro e w' ⟨rfl, he⟩
            go_wp2_with fail
            go_ret
            exact ⟨rfl, S.evo.two he⟩

end Go.Proofs.Ytnndkameadlkdaa
