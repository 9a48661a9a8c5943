/- The walk of AuditBegins. -/
import Derived.Test.YtelljdkcgipkkaaBeA
namespace Go.Proofs.Ytelljdkcgipkkaa
open Go.RowKit

theorem Try.info39 : (Try.prog.info? 39).map (fun i => (i.zero, i.size, i.bytes)) = some (some (.agg #[.int .i64 0, .int .i64 0, .int .i64 0, .slice none 0 0]), 4, 48) := by kernel_rfl

theorem tr_one {w : World} {v : Value} {xs : List TrD} (h : TrSrc w v xs) : ∀ u ∈ xs.flatMap TrD.cells, u.oneCell' = true := by
  intro u hu
  obtain ⟨d, hd, hu⟩ := List.mem_flatMap.1 hu
  obtain ⟨A, c, e, _⟩ := (h.each d hd).1
  simp only [TrD.cells, List.mem_cons, List.not_mem_nil, or_false] at hu
  rcases hu with rfl | rfl | rfl | rfl
  · rfl
  · rfl
  · rfl
  · rw [e]; rfl

theorem sumI_small {xs : List TrD} (h : sumT xs ≤ 6000) : ∀ x ∈ xs, x.b.length ≤ 100000 := fun x hx => by have := sumT_each hx; omega

set_option maxRecDepth 100000 in
set_option maxHeartbeats 4000000 in
theorem auditBegins_walk (w : World) (va vb : Value) (xs ys : List TrD) (ha : ArgT w va xs) (hb : ArgT w vb ys) :
    Calls Try.prog 4 #[va, vb] w fun e w' => e = .returned (.bool true) ∧ Evo (fun _ => False) w w' := by
  have hxl := ha.len
  have hyl := hb.len
  obtain ⟨A, ca, rfl, hca⟩ : ∃ A c, va = .slice A xs.length c ∧ xs.length ≤ c := by obtain ⟨A, c, e, h, _⟩ := ha.src; exact ⟨A, c, e, h⟩
  obtain ⟨B, cb, rfl, hcb⟩ : ∃ A c, vb = .slice A ys.length c ∧ ys.length ≤ c := by obtain ⟨A, c, e, h, _⟩ := hb.src; exact ⟨A, c, e, h⟩
  by_cases hbig : (60 : Int) < (xs.length : Int) + (ys.length : Int)
  · go_enter Try.func4, Try.ntmps4
    go_wp2_with fail
    refine (known_walk w).mono ?_
    rintro e w' ⟨rfl, he⟩
    go_wp2_with fail
    go_ret
    exact ⟨rfl, he⟩
  have lx := long_walk w _ xs ha (by omega)
  have ly := long_walk w _ ys hb (by omega)
  have bx : sumT xs ≤ 8444249301319740 := Nat.le_trans (sumT_le _ 140737488355328 (fun d hd => (ha.each d hd).2.2)) (Nat.le_trans (Nat.mul_le_mul_right _ (by omega : xs.length ≤ 60)) (by decide))
  have bY : sumT ys ≤ 8444249301319740 := Nat.le_trans (sumT_le _ 140737488355328 (fun d hd => (hb.each d hd).2.2)) (Nat.le_trans (Nat.mul_le_mul_right _ (by omega : ys.length ≤ 60)) (by decide))
  by_cases hsum : (6000 : Int) < (sumT xs : Int) + (sumT ys : Int)
  · go_enter Try.func4, Try.ntmps4
    go_wp2_with fail
    refine lx.mono ?_
    rintro e w' ⟨rfl, rfl⟩
    go_wp2_with fail
    refine ly.mono ?_
    rintro e w' ⟨rfl, rfl⟩
    go_wp2_with fail
    refine (known_walk w).mono ?_
    rintro e w' ⟨rfl, he⟩
    go_wp2_with fail
    go_ret
    exact ⟨rfl, he⟩
  have iA : TrSrc w (.slice A xs.length ca) xs := ⟨ha.src, fun x hx => ⟨(ha.each x hx).1, (ha.each x hx).2.1, sumI_small (by omega) x hx⟩⟩
  have iB : TrSrc w (.slice B ys.length cb) ys := ⟨hb.src, fun x hx => ⟨(hb.each x hx).1, (hb.each x hx).2.1, sumI_small (by omega) x hx⟩⟩
  obtain ⟨i39, hi39, hz39, hs39, hb39⟩ := info_parts Try.info39
  go_enter Try.func4, Try.ntmps4
  go_wp2_with fail
  refine lx.mono ?_
  rintro e w' ⟨rfl, rfl⟩
  go_wp2_with fail
  refine ly.mono ?_
  rintro e w' ⟨rfl, rfl⟩
  go_wp2_with fail
  refine (straight_walk w _ xs iA (by omega)).mono ?_
  rintro e w1 ⟨rfl, e1⟩
  have iA1 := iA.evo0 e1
  have iB1 := iB.evo0 e1
  obtain ⟨A2, c2, w2, hr2, ho2, hg2⟩ := run_append_fresh (P := Try.prog) w1 29 29 39 i39 _ 4 48 Try.underlying29 hi39 hz39 hs39 hb39 rfl (by omega) _ xs.length _ iA1.src (tr_one iA1) (by simp only [maxLen]; omega) (by omega)
  have e2 : Evo (fun _ => False) w1 w2 := (Evo.refl _ w1).grown hg2 (fun _ hf => by cases hf)
  have iA2 := iA1.evo0 e2
  have iB2 := iB1.evo0 e2
  obtain ⟨v3, w3, hr3, ho3, hg3, _⟩ := run_append_src (P := Try.prog) w2 w1.heap.size 29 29 39 i39 _ 4 48 Try.underlying29 hi39 hz39 hs39 hb39 rfl (by omega) _ xs.length _ ho2 _ ys.length _ iB2.src (tr_one iB2) (by simp only [maxLen]; omega) (by omega) hg2.size
  have e3 : Evo (fun _ => False) w1 w3 := by
    refine e2.trans ((Evo.refl (fun k => w1.heap.size ≤ k) w2).grown hg3 (fun g hg => .inl ?_)) (fun x hx => .inr hx)
    exact (ho2.lt g hg).1
  have iA3 := iA1.evo0 e3
  have iB3 := iB1.evo0 e3
  have hlen : (xs ++ ys).length = xs.length + ys.length := List.length_append
  have iC : TrSrc w3 v3 (xs ++ ys) := by
    refine ⟨?_, fun x hx => ?_⟩
    · have := Src.of_own ho3
      rw [hlen, List.flatMap_append]
      exact this
    · rcases List.mem_append.1 hx with hx | hx
      · exact iA3.each x hx
      · exact iB3.each x hx
  have cC := straight_walk w3 _ _ iC (by rw [hlen]; omega)
  obtain ⟨C3, c3, rfl, hc3⟩ := iC.form
  rw [hlen] at cC
  have Hr2 := Lib.hid hr2
  have Hr3 := Lib.hid hr3
  have e03 := e1.two e3
  clear hr2 hr3 hlen ho2 ho3 hg2 hg3 iC lx ly hi39 hz39 hs39 hb39
  cases hS : strF xs (fun _ _ => zer) 0 with
  | none =>
    obtain ⟨S', hS'⟩ := strF_behind xs ys (fun _ _ => zer) 0 hS
    rw [hS'] at cC
    clear hS hS'
    cases hU : strF ys S' (0 + xs.length) with
    | none =>
      rw [hU] at cC
      clear hU
      simp only [idx]
      simp only [idx] at cC
      go_wp2_with (first | (at_builtin; refine wpList_run rfl (run_op_append rfl Hr2.out) ?_) | (at_builtin; refine wpList_run rfl (run_op_append rfl Hr3.out) ?_))
      refine cC.mono ?_
      rintro e w4 ⟨rfl, e4⟩
      go_wp2_with fail
      refine (known_walk _).mono ?_
      rintro e w5 ⟨rfl, e5⟩
      go_wp2_with fail
      go_ret
      exact ⟨rfl, (e03.two e4).two e5⟩
    | some j =>
      rw [hU] at cC
      have hj := (strF_ge _ _ _ _ hU).1
      clear hU
      have hj2 : (xs.length : Int) ≤ (j : Int) := by omega
      simp only [idx]
      simp only [idx] at cC
      go_wp2_with (first | (at_builtin; refine wpList_run rfl (run_op_append rfl Hr2.out) ?_) | (at_builtin; refine wpList_run rfl (run_op_append rfl Hr3.out) ?_))
      refine cC.mono ?_
      rintro e w4 ⟨rfl, e4⟩
      go_wp2_with fail
      refine (known_walk _).mono ?_
      rintro e w5 ⟨rfl, e5⟩
      go_wp2_with fail
      go_ret
      exact ⟨rfl, (e03.two e4).two e5⟩
  | some j =>
    rw [strF_more xs ys _ _ _ hS] at cC
    have hj := (strF_ge _ _ _ _ hS).2
    obtain ⟨h1, h2⟩ := strF_ahead _ _ _ _ hS
    rw [Nat.sub_zero] at h1 h2
    clear hS
    have hj1 : j < xs.length := by omega
    have hj2 : (j : Int) < (xs.length : Int) := by omega
    have l1 : (xs.take j).length = j := by rw [List.length_take]; omega
    have l2 : (xs.take (j + 1)).length = j + 1 := by rw [List.length_take]; omega
    have hc1 : ∀ u, Evo (fun _ => False) w u → Calls Try.prog 8 #[.slice A j ca] u fun e u' => e = .returned (.int .i64 (-1)) ∧ Evo (fun _ => False) u u' := fun u hu => by
      have := straight_walk u _ _ ((iA.evo0 hu).take (k := j) (by omega)) (by omega)
      rw [h1] at this
      exact this
    have hc2 : ∀ u, Evo (fun _ => False) w u → Calls Try.prog 8 #[.slice A (j + 1) ca] u fun e u' => e = .returned (.int .i64 j) ∧ Evo (fun _ => False) u u' := fun u hu => by
      have := straight_walk u _ _ ((iA.evo0 hu).take (k := j + 1) (by omega)) (by omega)
      rw [h2] at this
      exact this
    have HC1 := Lib.hid hc1
    have HC2 := Lib.hid hc2
    clear hc1 hc2 h1 h2 l1 l2
    simp only [idx]
    simp only [idx] at cC
    go_wp2_with (first | (at_builtin; refine wpList_run rfl (run_op_append rfl Hr2.out) ?_) | (at_builtin; refine wpList_run rfl (run_op_append rfl Hr3.out) ?_))
    refine cC.mono ?_
    rintro e w4 ⟨rfl, e4⟩
    have e04 := e03.two e4
    go_wp2_with fail
    refine (HC1.out _ e04).mono ?_
    rintro e w6 ⟨rfl, e6⟩
    have e06 := e04.two e6
    go_wp2_with fail
    refine (HC2.out _ e06).mono ?_
    rintro e w7 ⟨rfl, e7⟩
    have e07 := e06.two e7
    go_wp2_with fail
    refine (known_walk _).mono ?_
    rintro e w5 ⟨rfl, e5⟩
    go_wp2_with fail
    go_ret
    exact ⟨rfl, (e07).two e5⟩

end Go.Proofs.Ytelljdkcgipkkaa
