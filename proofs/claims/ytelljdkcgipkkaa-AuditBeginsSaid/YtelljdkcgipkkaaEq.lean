/- The walk of codec.Equal. -/
import Derived.Test.YtelljdkcgipkkaaKn
import Derived.Laws.BitsAllLaws
namespace Go.Proofs.Ytelljdkcgipkkaa
open Go.RowKit

theorem Src.byteAt {w : World} {A : Option Addr} {n c : Nat} {l : List Int} (h : Src w 1 (.slice A n c) n (bys l)) {k : Nat} (hk : k < n) : ∃ ad, A = some ad ∧ w.cell? (ad.add k) = some (.int .u8 (l.getD k 0)) := by
  obtain ⟨A', c', e, hnc, hl, hc⟩ := h
  cases e
  have hl' : k < l.length := by have : (bys l).length = l.length := bys_length l; omega
  obtain ⟨ad, e1, e2⟩ := hc k (.int .u8 (l.getD k 0)) (by simp [bys, List.getElem?_map, List.getElem?_eq_getElem hl'])
  exact ⟨ad, e1, e2⟩

/-- One byte more: nothing differed, and these two don't. -/
theorem acc_step {a x y : Int} (ha : 0 ≤ a ∧ a ≤ 255) (hx : 0 ≤ x ∧ x ≤ 255) (hy : 0 ≤ y ∧ y ≤ 255) :
    0 ≤ bits .or .u8 a (bits .xor .u8 x y) ∧ bits .or .u8 a (bits .xor .u8 x y) ≤ 255 ∧ (bits .or .u8 a (bits .xor .u8 x y) = 0 ↔ a = 0 ∧ x = y) := by
  obtain ⟨a, rfl⟩ := Int.eq_ofNat_of_zero_le ha.1
  obtain ⟨x, rfl⟩ := Int.eq_ofNat_of_zero_le hx.1
  obtain ⟨y, rfl⟩ := Int.eq_ofNat_of_zero_le hy.1
  have h1 : x ^^^ y < 256 := Nat.xor_lt_two_pow (n := 8) (by omega) (by omega)
  have h2 : a ||| (x ^^^ y) < 256 := Nat.or_lt_two_pow (n := 8) (by omega) h1
  rw [u8_xor_nat x y (by omega) (by omega), u8_or_nat a (x ^^^ y) (by omega) h1]
  refine ⟨by omega, by omega, ?_⟩
  constructor
  · intro h
    have h3 : a ||| (x ^^^ y) = 0 := by omega
    have h4 : a = 0 ∧ x ^^^ y = 0 := by simpa [Nat.or_eq_zero_iff] using h3
    have h5 : x = y := Nat.eq_of_testBit_eq fun i => by
      have h6 := congrArg (fun n => n.testBit i) h4.2
      simpa [Nat.testBit_xor] using h6
    omega
  · rintro ⟨h, h'⟩
    have e1 : a = 0 := by omega
    have e2 : x = y := by omega
    subst e1
    subst e2
    simp

set_option maxRecDepth 100000 in
set_option maxHeartbeats 400000 in
theorem equal_walk (w : World) (av bv : Value) (l m : List Int) (ha : Src w 1 av l.length (bys l)) (hb : Src w 1 bv m.length (bys m)) (hl : Byt l) (hm : Byt m) (hn : l.length ≤ 100000) (hn2 : m.length ≤ 140737488355328) :
    Calls Try.prog 13 #[av, bv] w fun e w' => e = .returned (.bool (decide (l = m))) ∧ Evo (fun _ => False) w w' := by
  obtain ⟨A, ca, rfl, hca⟩ : ∃ A c, av = .slice A l.length c ∧ l.length ≤ c := by obtain ⟨A, c, e, h, _⟩ := ha; exact ⟨A, c, e, h⟩
  obtain ⟨B, cb, rfl, hcb⟩ : ∃ A c, bv = .slice A m.length c ∧ m.length ≤ c := by obtain ⟨A, c, e, h, _⟩ := hb; exact ⟨A, c, e, h⟩
  by_cases hlm : l.length = m.length
  · rw [← hlm] at hb ⊢
    have HLM := Lib.hid hlm
    rw [← hlm] at hcb hn2
    clear hlm
    go_enter Try.func13, Try.ntmps13
    go_wp2
    go_loopg [17, 7, 8] l.length (fun g j i b wx => ∃ k : Nat, k ≤ l.length ∧ g = l.length - k ∧ j = .int .i64 k ∧ ∃ a : Int, 0 ≤ a ∧ a ≤ 255 ∧ (a = 0 ↔ l.take k = m.take k) ∧ wx = w.alloc (.cells #[.int .u8 a] 5))
    case atStart => exact ⟨0, by omega, rfl, rfl, 0, by omega, by omega, by simp, rfl⟩
    case round =>
      obtain ⟨k, hk, rfl, rfl, a, ha0, ha1, hae, rfl⟩ := hrel
      by_cases hkl : k < l.length
      · have hkz : (k : Int) < (l.length : Int) := by omega
        have hev : Evo (fun _ => False) w (w.alloc (.cells #[.int .u8 a] 5)) := (Evo.refl _ w).alloc _
        obtain ⟨p, rfl, c0⟩ := (ha.evo0 hev).byteAt hkl
        obtain ⟨q, rfl, c1⟩ := (hb.evo0 hev).byteAt hkl
        have hkm : k < m.length := by have := HLM.out; omega
        have ex : l.getD k 0 = l[k] := by simp [List.getD, hkl]
        have ey : m.getD k 0 = m[k] := by simp [List.getD, hkm]
        have hxb := hl _ (List.getElem_mem hkl)
        have hyb := hm _ (List.getElem_mem hkm)
        rw [ex] at c0
        rw [ey] at c1
        have HX := Lib.hid (acc_step ⟨ha0, ha1⟩ hxb hyb)
        have HT : Hid ((a = 0 ∧ l[k] = m[k]) ↔ l.take (k + 1) = m.take (k + 1)) := by
          show _ ↔ _
          rw [hae, List.take_succ_eq_append_getElem hkl, List.take_succ_eq_append_getElem hkm]
          constructor
          · rintro ⟨e1, e2⟩
            rw [e1, e2]
          · intro e
            have := List.append_inj' e rfl
            exact ⟨this.1, by simpa using this.2⟩
        clear ex ey hae
        go_wp2
        go_end0
        go_wp2
        go_roundg (l.length - (k + 1))
        case measure => omega
        case rel => exact ⟨k + 1, by omega, rfl, by first | rfl | simp, _, HX.out.1, HX.out.2.1, HX.out.2.2.trans HT.out, rfl⟩
      · obtain rfl : k = l.length := by omega
        rw [List.take_length, HLM.out, List.take_length] at hae
        by_cases h0 : a = 0
        · have hd := Lib.hid (decide_eq_true (hae.1 h0))
          clear hae
          subst h0
          go_wp2
          go_ret
          exact ⟨congrArg (fun b => Ending.returned (Value.bool b)) hd.out.symm, (Evo.refl _ w).alloc _⟩
        · have hd := Lib.hid (decide_eq_false (fun e => h0 (hae.2 e)))
          clear hae
          have h0b : (a == 0) = false := by simpa using h0
          go_wp2
          go_ret
          exact ⟨congrArg (fun b => Ending.returned (Value.bool b)) hd.out.symm, (Evo.refl _ w).alloc _⟩
  · rw [decide_eq_false (fun e => hlm (by rw [e]))]
    have hne : ¬ (l.length : Int) = (m.length : Int) := by omega
    go_enter Try.func13, Try.ntmps13
    go_wp2
    go_ret
    exact ⟨rfl, Evo.refl _ w⟩

end Go.Proofs.Ytelljdkcgipkkaa
