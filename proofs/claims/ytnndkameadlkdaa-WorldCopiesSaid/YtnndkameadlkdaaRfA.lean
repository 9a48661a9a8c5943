/- The reference's world, by value: its small functions. -/
import Derived.Test.YtnndkameadlkdaaTrB
import Derived.Test.YtnndkameadlkdaaDoB
import Derived.Deep.LoopGhost
import Derived.WalkMore
namespace Go.Proofs.Ytnndkameadlkdaa
open Go.RowKit

/-- The cells of the reference's world. -/
def tcells (t : WS) (sv ev lv tv : Value) : Array Value :=
  #[.int .i64 t.blocks, sv, ev, .int .u64 t.counter, lv, .int .i64 t.reads, .bool t.armed, .int .i64 t.power, .bool t.dead, tv]

section
variable (w : World) (t : WS) (S E L T : Option Addr) (ns cs ne ce nl cl nt ct : Nat)

set_option maxRecDepth 100000 in
set_option maxHeartbeats 400000 in
theorem rcounter_walk : Calls Try.prog 31 #[.agg (tcells t (.slice S ns cs) (.slice E ne ce) (.slice L nl cl) (.slice T nt ct))] w fun e w' => e = .returned (.int .u64 t.count64) ∧ Evo (fun _ => False) w w' := by
  unfold tcells
  cases hd : t.dead
  · have hc : t.count64 = t.counter := by simp [WS.count64, hd]
    rw [hc]
    clear hc hd
    go_enter Try.func31, Try.ntmps31
    go_wp2
    go_ret
    exact ⟨rfl, (Evo.refl _ w).alloc _⟩
  · have hc : t.count64 = 0 := by simp [WS.count64, hd]
    rw [hc]
    clear hc hd
    go_enter Try.func31, Try.ntmps31
    go_wp2
    go_ret
    exact ⟨rfl, (Evo.refl _ w).alloc _⟩

set_option maxRecDepth 100000 in
set_option maxHeartbeats 400000 in
theorem rthere_walk (a s : Int) : Calls Try.prog 49 #[.agg (tcells t (.slice S ns cs) (.slice E ne ce) (.slice L nl cl) (.slice T nt ct)), .int .i64 a, .int .i64 s] w fun e w' => e = .returned (.bool (t.there a s)) ∧ Evo (fun _ => False) w w' := by
  obtain ⟨r, HR⟩ : ∃ r, Hid (t.there a s = r) := ⟨_, rfl⟩
  rw [HR.out]
  unfold tcells
  cases hd : t.dead
  · by_cases h0 : 0 ≤ a
    · by_cases h1 : a < t.blocks
      · by_cases h2 : 0 ≤ s
        · by_cases h3 : s ≤ 1
          · have Hr : Hid (r = true) := by show r = true; rw [← HR.out]; simp [WS.there, hd, h0, h1]; omega
            clear HR hd
            go_enter Try.func49, Try.ntmps49
            go_wp2
            go_ret
            exact ⟨by rw [Hr.out]; rfl, (Evo.refl _ w).alloc _⟩
          · have Hr : Hid (r = false) := by show r = false; rw [← HR.out]; simp [WS.there, hd, h0, h1]; omega
            have h3' : 1 < s := by omega
            clear HR hd
            go_enter Try.func49, Try.ntmps49
            go_wp2
            go_ret
            exact ⟨by rw [Hr.out]; rfl, (Evo.refl _ w).alloc _⟩
        · have Hr : Hid (r = false) := by show r = false; rw [← HR.out]; simp [WS.there, hd, h0, h1]; omega
          have h2' : s < 0 := by omega
          clear HR hd
          go_enter Try.func49, Try.ntmps49
          go_wp2
          go_ret
          exact ⟨by rw [Hr.out]; rfl, (Evo.refl _ w).alloc _⟩
      · have Hr : Hid (r = false) := by show r = false; rw [← HR.out]; simp [WS.there, hd, h0, h1]
        have h1' : t.blocks ≤ a := by omega
        clear HR hd
        go_enter Try.func49, Try.ntmps49
        go_wp2
        go_ret
        exact ⟨by rw [Hr.out]; rfl, (Evo.refl _ w).alloc _⟩
    · have Hr : Hid (r = false) := by show r = false; rw [← HR.out]; simp [WS.there, hd, h0]
      have h0' : a < 0 := by omega
      clear HR hd
      go_enter Try.func49, Try.ntmps49
      go_wp2
      go_ret
      exact ⟨by rw [Hr.out]; rfl, (Evo.refl _ w).alloc _⟩
  · have Hr : Hid (r = false) := by show r = false; rw [← HR.out]; simp [WS.there, hd]
    clear HR hd
    go_enter Try.func49, Try.ntmps49
    go_wp2
    go_ret
    exact ⟨by rw [Hr.out]; rfl, (Evo.refl _ w).alloc _⟩

set_option maxRecDepth 100000 in
set_option maxHeartbeats 800000 in
theorem rtakes_walk (n : Int) (h0 : 0 ≤ n) (h1 : n ≤ 1000000) (hp0 : 0 ≤ t.power) (hp1 : t.power ≤ 1000000) (hd : t.dead = false) :
    Calls Try.prog 53 #[.agg (tcells t (.slice S ns cs) (.slice E ne ce) (.slice L nl cl) (.slice T nt ct)), .int .i64 n] w fun e w' =>
      e = .returned (.tuple #[.agg (tcells (t.takes n) (.slice S ns cs) (.slice E ne ce) (.slice L nl cl) (.slice T nt ct)), .int .i64 (t.takesN n)]) ∧ Evo (fun _ => False) w w' := by
  cases ha : t.armed
  · have e1 : t.takes n = t := by simp [WS.takes, ha]
    have e2 : t.takesN n = n := by simp [WS.takesN, ha]
    rw [e1, e2]
    unfold tcells
    rw [ha, hd]
    clear e1 e2 ha hd
    go_enter Try.func53, Try.ntmps53
    go_wp2
    refine bodyPost_ret (v := .tuple #[.agg #[.int .i64 t.blocks, .slice S ns cs, .slice E ne ce, .int .u64 t.counter, .slice L nl cl, .int .i64 t.reads, .bool false, .int .i64 t.power, .bool false, .slice T nt ct], .int .i64 n]) (by simp [results, Try.results53, go_sem]) rfl ⟨rfl, ?_⟩
    exact ((Evo.refl _ w).alloc _).alloc _
  · have e2 : t.takesN n = min n t.power := by simp [WS.takesN, ha]
    have HE : Hid (tcells (t.takes n) (.slice S ns cs) (.slice E ne ce) (.slice L nl cl) (.slice T nt ct) = #[.int .i64 t.blocks, .slice S ns cs, .slice E ne ce, .int .u64 t.counter, .slice L nl cl, .int .i64 t.reads, .bool true, .int .i64 (t.power - min n t.power), .bool (decide (min n t.power < n)), .slice T nt ct]) := by
      simp [Hid, WS.takes, ha, tcells]
    rw [e2, HE.out]
    clear HE
    unfold tcells
    rw [ha, hd]
    clear e2 ha hd
    obtain ⟨N, rfl⟩ := Int.eq_ofNat_of_zero_le h0
    obtain ⟨p, hp⟩ := Int.eq_ofNat_of_zero_le hp0
    rw [hp] at hp1 ⊢
    clear hp hp0 h0
    have hfin : ∀ (q : Int) (d : Bool) (k : Int), (p : Int) - min (N : Int) (p : Int) = q → decide (min (N : Int) (p : Int) < (N : Int)) = d → min (N : Int) (p : Int) = k →
        Ending.returned (.tuple #[.agg #[.int .i64 t.blocks, .slice S ns cs, .slice E ne ce, .int .u64 t.counter, .slice L nl cl, .int .i64 t.reads, .bool true, .int .i64 q, .bool d, .slice T nt ct], .int .i64 k]) = Ending.returned (.tuple #[.agg #[.int .i64 t.blocks, .slice S ns cs, .slice E ne ce, .int .u64 t.counter, .slice L nl cl, .int .i64 t.reads, .bool true, .int .i64 ((p : Int) - min (N : Int) (p : Int)), .bool (decide (min (N : Int) (p : Int) < (N : Int))), .slice T nt ct], .int .i64 (min (N : Int) (p : Int))]) := by
      rintro q d k rfl rfl rfl
      rfl
    have Hfin := Lib.hid hfin
    clear hfin
    go_enter Try.func53, Try.ntmps53
    go_wp2
    go_loopg [6] N (fun g j wx => ∃ k : Nat, k ≤ N ∧ k ≤ p ∧ g = N - k ∧ j = .int .i64 k ∧
      wx = (w.alloc (.cells #[.int .i64 t.blocks, .slice S ns cs, .slice E ne ce, .int .u64 t.counter, .slice L nl cl, .int .i64 t.reads, .bool true, .int .i64 (p - k), .bool false, .slice T nt ct] 56)).alloc (.cells #[.int .i64 0, .slice none 0 0, .slice none 0 0, .int .u64 0, .slice none 0 0, .int .i64 0, .bool false, .int .i64 0, .bool false, .slice none 0 0] 56))
    case atStart => exact ⟨0, by omega, by omega, rfl, rfl, by simp⟩
    case round =>
      obtain ⟨k, hk, hkp, rfl, rfl, rfl⟩ := hrel
      by_cases hkl : k < N
      · have hkz : (k : Int) < (N : Int) := by omega
        by_cases hpl : k < p
        · have hpz : (0 : Int) < (p : Int) - (k : Int) := by omega
          go_wp2
          go_roundg (N - (k + 1))
          case measure => omega
          case rel => exact ⟨k + 1, by omega, by omega, rfl, by first | rfl | simp, by have e : (p : Int) - (k : Int) - 1 = (p : Int) - ((k + 1 : Nat) : Int) := (by omega); rw [e]⟩
        · obtain rfl : k = p := by omega
          go_wp2
          refine bodyPost_ret (v := .tuple #[.agg #[.int .i64 t.blocks, .slice S ns cs, .slice E ne ce, .int .u64 t.counter, .slice L nl cl, .int .i64 t.reads, .bool true, .int .i64 ((k : Int) - k), .bool true, .slice T nt ct], .int .i64 k]) (by simp [results, Try.results53, go_sem]) rfl ⟨Hfin.out _ _ _ (by omega) (by simp; omega) (by omega), ?_⟩
          exact ((Evo.refl _ w).alloc _).alloc _
      · obtain rfl : k = N := by omega
        go_wp2
        refine bodyPost_ret (v := .tuple #[.agg #[.int .i64 t.blocks, .slice S ns cs, .slice E ne ce, .int .u64 t.counter, .slice L nl cl, .int .i64 t.reads, .bool true, .int .i64 ((p : Int) - k), .bool false, .slice T nt ct], .int .i64 k]) (by simp [results, Try.results53, go_sem]) rfl ⟨Hfin.out _ _ _ (by omega) (by simp; omega) (by omega), ?_⟩
        exact ((Evo.refl _ w).alloc _).alloc _
end

end Go.Proofs.Ytnndkameadlkdaa
