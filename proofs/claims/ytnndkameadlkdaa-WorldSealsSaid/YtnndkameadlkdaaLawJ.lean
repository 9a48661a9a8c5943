/- The walk of WorldSeals. -/
import Derived.Test.YtnndkameadlkdaaLawI
namespace Go.Proofs.Ytnndkameadlkdaa
open Go.RowKit

set_option maxRecDepth 100000 in
set_option maxHeartbeats 400000 in
theorem seals_walk (w : World) (av bv : Value) (a b : List Int) (q p : Int) (ha : Arg w av a) (hb : Arg w bv b) (hq : 0 ≤ q ∧ q ≤ 65535) (hp : 0 ≤ p ∧ p ≤ 255) :
    Calls Try.prog 6 #[av, bv, .int .u16 q, .int .u8 p] w fun e w' => e = .returned (.bool true) ∧ Evo (fun _ => False) w w' := by
  have hal := ha.len
  have hbl := hb.len
  obtain ⟨A, ca, rfl, hca⟩ : ∃ A c, av = .slice A a.length c ∧ a.length ≤ c := by obtain ⟨A, c, e, h, _⟩ := ha.src; exact ⟨A, c, e, h⟩
  obtain ⟨B, cb, rfl, hcb⟩ : ∃ A c, bv = .slice A b.length c ∧ b.length ≤ c := by obtain ⟨A, c, e, h, _⟩ := hb.src; exact ⟨A, c, e, h⟩
  by_cases hbig : (600 : Int) < (a.length : Int) + (b.length : Int)
  · go_enter Try.func6, Try.ntmps6
    go_wp2_with fail
    refine (known_walk w).mono ?_
    rintro e w' ⟨rfl, he⟩
    go_wp2_with fail
    go_ret
    exact ⟨rfl, he⟩
  · have hao := ha.ok (by omega)
    have hbo := hb.ok (by omega)
    obtain ⟨i5, hi5, hz5, hs5, hb5⟩ := info_parts Try.info5
    have kc := fun (w : World) (C : Array Value) (n c : Nat) => Lib.run_convert_bytes_const (P := Try.prog) w 22 5 C n c Try.underlying22 Try.underlying5
    have hi : 0 ≤ p % 2 ∧ p % 2 < 2 := by omega
    have hk0 : 0 ≤ q % ((b.length : Int) + 3) := Int.emod_nonneg _ (by omega)
    have hk1 : q % ((b.length : Int) + 3) < (b.length : Int) + 3 := Int.emod_lt_of_pos _ (by omega)
    obtain ⟨kn, HK⟩ : ∃ kn : Nat, Hid (q % ((b.length : Int) + 3) = (kn : Int)) := ⟨(q % ((b.length : Int) + 3)).toNat, (Int.toNat_of_nonneg hk0).symm⟩
    rw [HK.out] at hk1
    clear hk0
    go_enter Try.func6, Try.ntmps6
    go_wp2_with fail
    generalize p % 2 = i at hi ⊢
    clear hp
    refine (R_new 1 w).mono ?_
    rintro e w1 ⟨g, F1, rfl, hR1, hev1, hF1⟩
    have S : St w w1 g (WS.new 1) F1 := ⟨hR1, hev1, hF1⟩
    clear hR1 hev1 hF1
    have D := seals_data i kn a b hi (by omega) (by omega)
    generalize ht1 : (WS.new 1).sealing i a = t1 at *
    generalize ht2 : t1.sealing (1 - i) oth = t2 at *
    generalize ht3 : t2.look i = t3 at *
    generalize ht4 : t3.arm kn = t4 at *
    generalize ht5 : t4.sealing i b = t5 at *
    go_wp2_with fail
    refine (R_seal S.rep i _ a (ha.srcAt S.evo) hao (ha.hF S) (by simp [WS.new])).mono ?_
    rintro e w2 ⟨F2, rfl, hg2⟩
    rw [ht1] at hg2
    rw [D.b1]
    have S := S.goes hg2
    clear hg2
    go_wp2_with fail
    refine (R_seal (st_alloc S _).rep (1 - i) _ oth (src_alloc w2 oth (5, 6)) ⟨by decide, fun x hx => by simp [oth] at hx; omega⟩ (hF_alloc S oth (5, 6)) D.n1).mono ?_
    rintro e w3 ⟨F3, rfl, hg3⟩
    rw [ht2] at hg3
    rw [D.b2]
    have S := (st_alloc S _).goes hg3
    clear hg3
    go_wp2_with fail
    refine (R_look S.rep i D.n2).mono ?_
    rintro e w4 ⟨x, F4, rfl, hx, hg4⟩
    rw [ht3] at hg4
    rw [D.r3] at hx
    have hx := hx.mine S.evo
    have S := S.goes hg4
    obtain ⟨X, cx, rfl, hcx⟩ := hx.form rfl
    clear hg4
    go_wp2_with fail
    refine (same_walk _ _ a a w4 hx.src (ha.srcAt S.evo) hao.2 hao.2).mono ?_
    rintro e w' ⟨rfl, rfl⟩
    rw [decide_eq_true rfl]
    clear hx
    go_wp2_with fail
    rw [HK.out]
    refine (R_arm S.rep kn).mono ?_
    rintro e w5 ⟨rfl, hg5⟩
    rw [ht4] at hg5
    have S := S.goes hg5
    clear hg5 HK
    go_wp2_with fail
    refine (R_seal S.rep i _ b (hb.srcAt S.evo) hbo (hb.hF S) D.n4).mono ?_
    rintro e w6 ⟨F6, rfl, hg6⟩
    rw [ht5] at hg6
    have S := S.goes hg6
    rw [D.w4]
    clear hg6
    go_wp2_with fail
    refine (R_restart S.rep).mono ?_
    rintro e w8 ⟨rfl, hg8⟩
    have S := S.goes hg8
    clear hg8
    go_wp2_with fail
    refine (R_look S.rep i D.n6).mono ?_
    rintro e w9 ⟨y, F9, rfl, hy, hg9⟩
    rw [D.r6] at hy
    have hy2 := hy.mine S.evo
    clear hy
    have hy := hy2
    clear hy2
    have S := S.goes hg9
    clear hg9 ht1 ht2 ht3 ht4 ht5
    have hsb := hb.srcAt S.evo
    have hsa := ha.srcAt S.evo
    by_cases hkb : b.length ≤ kn
    · rw [sealTo_all a b kn (by omega)] at hy
      rw [decide_eq_true (p := b.length ≤ kn) (by omega)]
      have hyb := hbo.2
      have hst := hsb
      obtain ⟨Y, cy, rfl, hcy⟩ := hy.form rfl
      by_cases hkeq : kn = b.length
      · subst hkeq
        obtain ⟨A3, c3, w10, hrun3, hown3, hg3⟩ := run_append_fresh (P := Try.prog) w9 22 22 5 i5 _ 1 1 Try.underlying22 hi5 hz5 hs5 hb5 rfl (by omega) _ b.length _ hst (bys_one _) (by simp only [maxLen]; omega) (by omega)
        have hevn : Evo (fun _ => False) w9 w10 := (Evo.refl _ w9).grown hg3 (by simp)
        have G1 := Lib.hid hrun3
        clear hrun3
        have S := S.turn hevn
        have hy := hy.turn hevn
        have hws : Src w10 1 (.slice A3 b.length c3) (b).length (bys (b)) := by exact Src.of_own hown3
        have hbt : Byt (b) := hyb
        go_wp2_with (at_builtin; refine wpList_run rfl (run_op_append rfl G1.out) ?_)
        refine (same_walk _ _ (b) (b) _ hy.src hws hbt hbt).mono ?_
        rintro e w' ⟨rfl, rfl⟩
        rw [decide_eq_true rfl]
        go_wp2_with fail
        refine (R_look S.rep (1 - i) D.n7).mono ?_
        rintro e w12 ⟨z, F12, rfl, hz, hg12⟩
        rw [D.r7] at hz
        have hz := hz.mine S.evo
        have S := S.goes hg12
        obtain ⟨Z, cz, rfl, hcz⟩ := hz.form (n := 5) rfl
        have kz := run_bytes_string w12 (.slice Z 5 cz) oth hz.src
        rw [show toStr oth = { data := #[111, 116, 104, 101, 114] } from rfl] at kz
        go_wp2_with fail
        refine (known_walk _).mono ?_
        rintro e w' ⟨rfl, he⟩
        go_wp2_with fail
        go_ret
        exact ⟨rfl, S.evo.two he⟩
      · have hkgt : (b.length : Int) < (kn : Int) := by omega
        obtain ⟨A3, c3, w10, hrun3, hown3, hg3⟩ := run_append_fresh (P := Try.prog) w9 22 22 5 i5 _ 1 1 Try.underlying22 hi5 hz5 hs5 hb5 rfl (by omega) _ b.length _ hst (bys_one _) (by simp only [maxLen]; omega) (by omega)
        have hevn : Evo (fun _ => False) w9 w10 := (Evo.refl _ w9).grown hg3 (by simp)
        have G1 := Lib.hid hrun3
        clear hrun3
        have S := S.turn hevn
        have hy := hy.turn hevn
        have hws : Src w10 1 (.slice A3 b.length c3) (b).length (bys (b)) := by exact Src.of_own hown3
        have hbt : Byt (b) := hyb
        go_wp2_with (at_builtin; refine wpList_run rfl (run_op_append rfl G1.out) ?_)
        refine (same_walk _ _ (b) (b) _ hy.src hws hbt hbt).mono ?_
        rintro e w' ⟨rfl, rfl⟩
        rw [decide_eq_true rfl]
        go_wp2_with fail
        refine (R_look S.rep (1 - i) D.n7).mono ?_
        rintro e w12 ⟨z, F12, rfl, hz, hg12⟩
        rw [D.r7] at hz
        have hz := hz.mine S.evo
        have S := S.goes hg12
        obtain ⟨Z, cz, rfl, hcz⟩ := hz.form (n := 5) rfl
        have kz := run_bytes_string w12 (.slice Z 5 cz) oth hz.src
        rw [show toStr oth = { data := #[111, 116, 104, 101, 114] } from rfl] at kz
        go_wp2_with fail
        refine (known_walk _).mono ?_
        rintro e w' ⟨rfl, he⟩
        go_wp2_with fail
        go_ret
        exact ⟨rfl, S.evo.two he⟩
    · have hkb1 : (kn : Int) < (b.length : Int) := by omega
      have hkcb : (kn : Int) ≤ (cb : Int) := by omega
      rw [decide_eq_false (p := b.length ≤ kn) (by omega)]
      have hst := hsb.take (k := kn) (by omega) rfl
      rw [bys_take] at hst
      have hln : (b.take kn).length = kn := by rw [List.length_take]; omega
      by_cases hka : kn < a.length
      · have hka1 : (kn : Int) < (a.length : Int) := by omega
        have he : WS.sealTo a b kn = b.take kn ++ a.drop kn := by
          unfold WS.sealTo
          rw [if_pos ⟨hkb1, hka1⟩, Int.toNat_natCast]
        rw [he] at hy
        have hll : (b.take kn ++ a.drop kn).length = kn + (a.length - kn) := by rw [List.length_append, hln, List.length_drop]
        have hyb : Byt (b.take kn ++ a.drop kn) := fun x hx => by
          rcases List.mem_append.1 hx with h | h
          · exact hbo.2 x (List.mem_of_mem_take h)
          · exact hao.2 x (List.mem_of_mem_drop h)
        obtain ⟨Y, cy, rfl, hcy⟩ := hy.form hll
        obtain ⟨A3, c3, w10, hrun3, hown3, hg3⟩ := run_append_fresh (P := Try.prog) w9 22 22 5 i5 _ 1 1 Try.underlying22 hi5 hz5 hs5 hb5 rfl (by omega) _ kn _ hst (bys_one _) (by simp only [maxLen]; omega) (by omega)
        have hevn : Evo (fun _ => False) w9 w10 := (Evo.refl _ w9).grown hg3 (by simp)
        have G1 := Lib.hid hrun3
        clear hrun3
        have hsd := (hsa.evo0 hevn (fun _ _ _ _ hf => hf)).drop (k := kn) hka
        rw [← bys_drop] at hsd
        obtain ⟨v4, w11, hrun4, hown4, hg4, hat4⟩ := run_append_src (P := Try.prog) w10 w9.heap.size 22 22 5 i5 _ 1 1 Try.underlying22 hi5 hz5 hs5 hb5 rfl (by omega) _ kn _ hown3 _ _ _ hsd (bys_one _) (by simp only [maxLen]; omega) (by omega) hg3.size
        obtain ⟨A4, c4, rfl, _⟩ := ownsRow_slice hown4
        have hbase : ∀ g, (Value.slice A3 kn c3).ownBlock = some g → w9.heap.size ≤ g := fun g hg => (hown3.lt g hg).1
        have hevn4 : Evo (fun _ => False) w9 w11 := hevn.grown hg4 (fun g hg => .inr (hbase g hg))
        have G2 := Lib.hid hrun4
        have S := S.turn hevn4
        have hy := hy.turn hevn4
        rw [← bys_append] at hown4
        have hws : Src w11 1 (.slice A4 (kn + (a.length - kn)) c4) (b.take kn ++ a.drop kn).length (bys (b.take kn ++ a.drop kn)) := by rw [hll]; exact Src.of_own hown4
        clear hrun4 hown4 hg4 hat4 hbase hsd hsa hsb hst
        have hbt : Byt (b.take kn ++ a.drop kn) := hyb
        have tok1 : True := trivial
        go_wp2_with (first | (at_builtin; have _t := tok1; refine wpList_run rfl (run_op_append rfl G1.out) ?_; clear _t tok1) | (at_builtin; refine wpList_run rfl (run_op_append rfl G2.out) ?_))
        refine (same_walk _ _ (b.take kn ++ a.drop kn) (b.take kn ++ a.drop kn) _ hy.src hws hbt hbt).mono ?_
        rintro e w' ⟨rfl, rfl⟩
        rw [decide_eq_true rfl]
        go_wp2_with fail
        refine (R_look S.rep (1 - i) D.n7).mono ?_
        rintro e w12 ⟨z, F12, rfl, hz, hg12⟩
        rw [D.r7] at hz
        have hz := hz.mine S.evo
        have S := S.goes hg12
        obtain ⟨Z, cz, rfl, hcz⟩ := hz.form (n := 5) rfl
        have kz := run_bytes_string w12 (.slice Z 5 cz) oth hz.src
        rw [show toStr oth = { data := #[111, 116, 104, 101, 114] } from rfl] at kz
        go_wp2_with fail
        refine (known_walk _).mono ?_
        rintro e w' ⟨rfl, he⟩
        go_wp2_with fail
        go_ret
        exact ⟨rfl, S.evo.two he⟩
      · have hka1 : ¬ (kn : Int) < (a.length : Int) := by omega
        have he : WS.sealTo a b kn = b.take kn := by
          unfold WS.sealTo
          rw [if_neg (fun h => hka1 h.2), Int.toNat_natCast, List.append_nil]
        rw [he] at hy
        have hyb : Byt (b.take kn) := fun x hx => hbo.2 x (List.mem_of_mem_take hx)
        obtain ⟨Y, cy, rfl, hcy⟩ := hy.form hln
        obtain ⟨A3, c3, w10, hrun3, hown3, hg3⟩ := run_append_fresh (P := Try.prog) w9 22 22 5 i5 _ 1 1 Try.underlying22 hi5 hz5 hs5 hb5 rfl (by omega) _ kn _ hst (bys_one _) (by simp only [maxLen]; omega) (by omega)
        have hevn : Evo (fun _ => False) w9 w10 := (Evo.refl _ w9).grown hg3 (by simp)
        have G1 := Lib.hid hrun3
        clear hrun3
        have S := S.turn hevn
        have hy := hy.turn hevn
        have hws : Src w10 1 (.slice A3 kn c3) (b.take kn).length (bys (b.take kn)) := by rw [hln]; exact Src.of_own hown3
        have hbt : Byt (b.take kn) := hyb
        go_wp2_with (at_builtin; refine wpList_run rfl (run_op_append rfl G1.out) ?_)
        refine (same_walk _ _ (b.take kn) (b.take kn) _ hy.src hws hbt hbt).mono ?_
        rintro e w' ⟨rfl, rfl⟩
        rw [decide_eq_true rfl]
        go_wp2_with fail
        refine (R_look S.rep (1 - i) D.n7).mono ?_
        rintro e w12 ⟨z, F12, rfl, hz, hg12⟩
        rw [D.r7] at hz
        have hz := hz.mine S.evo
        have S := S.goes hg12
        obtain ⟨Z, cz, rfl, hcz⟩ := hz.form (n := 5) rfl
        have kz := run_bytes_string w12 (.slice Z 5 cz) oth hz.src
        rw [show toStr oth = { data := #[111, 116, 104, 101, 114] } from rfl] at kz
        go_wp2_with fail
        refine (known_walk _).mono ?_
        rintro e w' ⟨rfl, he⟩
        go_wp2_with fail
        go_ret
        exact ⟨rfl, S.evo.two he⟩

end Go.Proofs.Ytnndkameadlkdaa
