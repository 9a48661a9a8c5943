/- The walk of the law's 'known'. -/
import Derived.Test.YtnndkameadlkdaaLawA
import Derived.Lib.SlBytesConst
namespace Go.Proofs.Ytnndkameadlkdaa
open Go.RowKit

set_option maxRecDepth 100000 in
set_option maxHeartbeats 400000 in
theorem known_walk (w : World) : Calls Try.prog 10 #[] w fun e w' => e = .returned (.bool true) ∧ Evo (fun _ => False) w w' := by
  have kc := fun (w : World) (C : Array Value) (n c : Nat) => Lib.run_convert_bytes_const (P := Try.prog) w 22 5 C n c Try.underlying22 Try.underlying5
  go_enter Try.func10, Try.ntmps10
  go_wp2_with fail
  refine (R_new 1 w).mono ?_
  rintro e w1 ⟨b, F1, rfl, hR1, hev1, hF1⟩
  have s1 : St w w1 b (WS.new 1) F1 := ⟨hR1, hev1, hF1⟩
  clear hR1 hev1 hF1
  go_wp2_with fail
  refine (R_write (st_alloc s1 _).rep 0 1 _ [97, 98] (src_alloc w1 [97, 98] (2, 3)) (by refine ⟨by simp, fun x hx => ?_⟩; simp at hx; omega) (hF_alloc s1 [97, 98] (2, 3)) Kn.l0).mono ?_
  rintro e w2 ⟨F2, rfl, hg2⟩
  have s2 : St w w2 b Kn.t1 F2 := (st_alloc s1 _).goes hg2
  rw [Kn.a1]
  clear s1 hg2
  go_wp2_with fail
  refine (R_read s2.rep 0 1 Kn.l1).mono ?_
  rintro e w3 ⟨x, F3, rfl, hx, hg3⟩
  rw [Kn.x1] at hx
  have hx := hx.mine s2.evo
  obtain ⟨A, c, rfl, hc⟩ := hx.form Kn.len1
  have s3 : St w w3 b Kn.t2 F3 := s2.goes hg3
  clear s2 hg3
  go_wp2_with fail
  refine (R_arm s3.rep 1).mono ?_
  rintro e w4 ⟨rfl, hg4⟩
  have s4 : St w w4 b Kn.t3 F3 := s3.goes hg4
  have hx := hx.goes hg4
  clear s3 hg4
  go_wp2_with fail
  refine (R_write (st_alloc s4 _).rep 0 1 _ [99, 100] (src_alloc w4 [99, 100] (2, 3)) (by refine ⟨by simp, fun x hx => ?_⟩; simp at hx; omega) (hF_alloc s4 [99, 100] (2, 3)) Kn.l3).mono ?_
  rintro e w5 ⟨F5, rfl, hg5⟩
  have s5 : St w w5 b Kn.t4 F5 := (st_alloc s4 _).goes hg5
  have hx := (mine_alloc hx _).goes hg5
  rw [Kn.b1]
  clear s4 hg5
  go_wp2_with fail
  refine (R_dead s5.rep).mono ?_
  rintro e w' ⟨rfl, rfl⟩
  rw [Kn.d1]
  go_wp2_with fail
  refine (R_restart s5.rep).mono ?_
  rintro e w6 ⟨rfl, hg6⟩
  have s6 : St w w6 b Kn.t5 F5 := s5.goes hg6
  have hx := hx.goes hg6
  clear s5 hg6
  go_wp2_with fail
  refine (R_read s6.rep 0 1 Kn.l5).mono ?_
  rintro e w7 ⟨y, F7, rfl, hy, hg7⟩
  rw [Kn.y1] at hy
  have hy := hy.mine s6.evo
  have hx := hx.goes hg7
  obtain ⟨A2, c2, rfl, hc2⟩ := hy.form Kn.len2
  have s7 := s6.goes hg7
  have he : Evo (fun _ => False) w w7 := s7.evo
  clear s6 hg7 s7
  have e1 : (2 : Int) ≤ (c : Int) := by omega
  have e2 : (2 : Int) ≤ (c2 : Int) := by omega
  have hs1 := hx.src
  have hs2 := hy.src
  rw [Kn.len1] at hs1
  rw [Kn.len2] at hs2
  have hs1 := hs1.take (k := 2) (by omega) rfl
  have hs2 := hs2.take (k := 2) (by omega) rfl
  rw [bys_take, Kn.tk1] at hs1
  rw [bys_take, Kn.tk2] at hs2
  have k1 := run_bytes_string w7 (.slice A 2 c) [97, 98] hs1
  have k2 := run_bytes_string w7 (.slice A2 2 c2) [99, 98] hs2
  rw [show toStr [97, 98] = { data := #[97, 98] } from rfl] at k1
  rw [show toStr [99, 98] = { data := #[99, 98] } from rfl] at k2
  clear hs1 hs2 hx hy hc hc2
  go_wp2
  go_ret
  exact ⟨rfl, he⟩
end Go.Proofs.Ytnndkameadlkdaa
