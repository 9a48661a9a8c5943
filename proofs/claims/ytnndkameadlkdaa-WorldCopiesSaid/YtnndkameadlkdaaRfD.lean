/- The walks of the reference's over, with, Pad. -/
import Derived.Test.YtnndkameadlkdaaRfC
namespace Go.Proofs.Ytnndkameadlkdaa
open Go.RowKit

theorem Src.byteAt {w : World} {A : Option Addr} {n c : Nat} {l : List Int} (h : Src w 1 (.slice A n c) n (bys l)) {k : Nat} (hk : k < l.length) : ∃ b o, A = some ⟨b, o, none⟩ ∧ k < n ∧ w.cell? ⟨b, o + k, none⟩ = some (.int .u8 l[k]) := by
  obtain ⟨A', c', e, hnc, hl, hc⟩ := h
  cases e
  have hl' : l.length = n := by have : (bys l).length = l.length := bys_length l; omega
  obtain ⟨⟨b, o, sp⟩, e1, e2⟩ := hc k (.int .u8 l[k]) (by simp [bys, List.getElem?_map, List.getElem?_eq_getElem hk])
  obtain ⟨ad', e3, e4⟩ := hc 0 (.int .u8 (l[0]'(by omega))) (by simp [bys, List.getElem?_map])
  rw [e1] at e3
  cases e3
  have hsp : sp = none := by
    have : ((⟨b, o, sp⟩ : Addr).add 0).spot = none := World.cell?_spot e4
    simpa [Addr.add] using this
  subst hsp
  rw [Addr.add_mid] at e2
  exact ⟨b, o, e1, by omega, e2⟩

section
variable (N : Nat → Prop) (w : World)

theorem over_len2 (old fresh : List Int) (K : Nat) (hK : K ≤ fresh.length) : (WS.over old fresh K).length = max old.length K := by
  simp [WS.over]; omega
theorem over_low (old fresh : List Int) (K : Nat) (hK : K ≤ fresh.length) (k : Nat) (hk : k < K) : (WS.over old fresh K).take (k + 1) = (WS.over old fresh K).take k ++ [fresh[k]'(by omega)] := by
  have hl := over_len2 old fresh K hK
  rw [List.take_succ_eq_append_getElem (by omega)]
  congr 2
  simp only [WS.over, Int.toNat_natCast]
  rw [List.getElem_append_left (by simp; omega)]
  simp
theorem over_high (old fresh : List Int) (K : Nat) (hK : K ≤ fresh.length) (k : Nat) (hk : K ≤ k) (ho : k < old.length) : (WS.over old fresh K).take (k + 1) = (WS.over old fresh K).take k ++ [old[k]] := by
  have hl := over_len2 old fresh K hK
  rw [List.take_succ_eq_append_getElem (by omega)]
  congr 2
  simp only [WS.over, Int.toNat_natCast]
  rw [List.getElem_append_right (by simp; omega)]
  simp only [List.getElem_drop, List.length_take]
  congr 1
  omega

set_option maxRecDepth 100000 in
set_option maxHeartbeats 1000000 in
theorem rover_walk (hN : ∀ k, N k → k < w.heap.size) (ov fv : Value) (old fresh : List Int) (ho : Src w 1 ov old.length (bys old)) (hf : Src w 1 fv fresh.length (bys fresh)) (K : Nat) (hK : K ≤ fresh.length) (h1 : old.length ≤ 100000) (h2 : fresh.length ≤ 100000) :
    Calls Try.prog 55 #[ov, fv, .int .i64 (K : Int)] w fun e w' => ∃ A c, e = .returned (.slice A (WS.over old fresh K).length c) ∧ SrcN N w' 1 (.slice A (WS.over old fresh K).length c) (WS.over old fresh K).length (bys (WS.over old fresh K)) ∧ Evo (fun _ => False) w w' := by
  obtain ⟨i5, hi5, hz5, hs5, hb5⟩ := info_parts Try.info5
  obtain ⟨A, ca, rfl, hca⟩ : ∃ A c, ov = .slice A old.length c ∧ old.length ≤ c := by obtain ⟨A, c, e, h, _⟩ := ho; exact ⟨A, c, e, h⟩
  obtain ⟨B, cb, rfl, hcb⟩ : ∃ A c, fv = .slice A fresh.length c ∧ fresh.length ≤ c := by obtain ⟨A, c, e, h, _⟩ := hf; exact ⟨A, c, e, h⟩
  have hl := over_len2 old fresh K hK
  obtain ⟨R, hR⟩ : ∃ R, WS.over old fresh K = R := ⟨_, rfl⟩
  rw [hR] at hl ⊢
  have hlow := over_low old fresh K hK
  have hhigh := over_high old fresh K hK
  rw [hR] at hlow hhigh
  obtain ⟨N, hN⟩ : ∃ N, R.length = N := ⟨_, rfl⟩
  rw [hN] at hl ⊢
  have HN := Lib.hid hN
  have Hl := Lib.hid hl
  have Hlow := Lib.hid hlow
  have Hhigh := Lib.hid hhigh
  clear hR hN hl hlow hhigh
  go_enter Try.func55, Try.ntmps55
  go_wp2
  go_loopg [7, 8] N (fun g v j wx => ∃ k : Nat, k ≤ N ∧ g = N - k ∧ j = .int .i64 k ∧ ∃ (X : Option Addr) (c : Nat), v = .slice X k c ∧ wx.ownsRow w.heap.size 5 1 (.slice X k c) k (bys (R.take k)) ∧ Evo (fun _ => False) w wx)
  case atStart => exact ⟨0, by omega, rfl, rfl, none, 0, rfl, World.ownsRow_nil _ _ _ _, Evo.refl _ w⟩
  case round =>
    obtain ⟨k, hk, rfl, rfl, X, c, rfl, hown, hev⟩ := hrel
    have hkN := Hl.out
    have step : ∀ (x : Int), R.take (k + 1) = R.take k ++ [x] → ∃ X' c' w', (Builtin.append_ #[22, 22] 22 #[.slice X k c, .slice (some ⟨wr.heap.size, 0, none⟩) 1 1]).run Try.prog (wr.alloc (.cells #[.int .u8 x] 5)) = .ok (.slice X' (k + 1) c') w' ∧
        w'.ownsRow w.heap.size 5 1 (.slice X' (k + 1) c') (k + 1) (bys (R.take (k + 1))) ∧ Evo (fun _ => False) w w' := by
      intro x hx
      obtain ⟨v2, w2, hr2, ho2, hg2, _⟩ := run_append_src (P := Try.prog) (wr.alloc (.cells #[.int .u8 x] 5)) w.heap.size 22 22 5 i5 _ 1 1 Try.underlying22 hi5 hz5 hs5 hb5 rfl (by omega) (.slice X k c) k _ (hown.alloc _) (.slice (some ⟨wr.heap.size, 0, none⟩) 1 1) 1 [.int .u8 x]
        (Src.laid _ _ _ _ _ rfl) (by simp [Value.oneCell']) (by simp only [maxLen]; omega) (by omega) (by have := hev.size; simp; omega)
      obtain ⟨X', c', rfl, _⟩ := ownsRow_slice ho2
      refine ⟨X', c', w2, hr2, ?_, (hev.alloc _).trans ((Evo.refl (fun g => w.heap.size ≤ g) _).grown hg2 (fun g hg => .inl (hown.lt g hg).1)) (fun g hg => .inr hg)⟩
      rw [hx, bys_append]
      exact ho2
    have Hst := Lib.hid step
    clear step
    by_cases hkK : k < K
    · have hkz : (k : Int) < (K : Int) := by omega
      have hkl : k < N := by omega
      obtain ⟨b0, o0, e0, hkn, c0⟩ := (hf.evo hev (fun _ _ _ hf => hf)).byteAt (k := k) (by omega)
      subst e0
      obtain ⟨X', c', w', hr', ho', he'⟩ := Hst.out _ (Hlow.out k hkK)
      have Hr := Lib.hid hr'
      clear hr' Hst hkN
      by_cases hio : (k : Int) < (old.length : Int)
      · go_wp2_with (at_builtin; refine wpList_run rfl (run_op_append rfl Hr.out) ?_)
        go_roundg (N - (k + 1))
        case measure => omega
        case rel => exact ⟨k + 1, by omega, rfl, by first | rfl | simp, X', c', rfl, ho', he'⟩
      · go_wp2_with (at_builtin; refine wpList_run rfl (run_op_append rfl Hr.out) ?_)
        go_roundg (N - (k + 1))
        case measure => omega
        case rel => exact ⟨k + 1, by omega, rfl, by first | rfl | simp, X', c', rfl, ho', he'⟩
    · have hkz : ¬ (k : Int) < (K : Int) := by omega
      by_cases hio : k < old.length
      · have hioz : (k : Int) < (old.length : Int) := by omega
        have hkl : k < N := by omega
        obtain ⟨b0, o0, e0, hkn, c0⟩ := (ho.evo hev (fun _ _ _ hf => hf)).byteAt (k := k) (by omega)
        subst e0
        obtain ⟨X', c', w', hr', ho', he'⟩ := Hst.out _ (Hhigh.out k (by omega) hio)
        have Hr := Lib.hid hr'
        clear hr' Hst hkN
        go_wp2_with (at_builtin; refine wpList_run rfl (run_op_append rfl Hr.out) ?_)
        go_roundg (N - (k + 1))
        case measure => omega
        case rel => exact ⟨k + 1, by omega, rfl, by first | rfl | simp, X', c', rfl, ho', he'⟩
      · have hioz : ¬ (k : Int) < (old.length : Int) := by omega
        obtain rfl : k = N := by omega
        clear Hst hkN
        go_wp2
        go_ret
        refine ⟨X, c, rfl, ?_, hev⟩
        have := Src.of_own hown
        rw [List.take_of_length_le (by rw [HN.out]; exact Nat.le_refl _)] at this
        refine ⟨this, fun _ ad c e hf => ?_⟩
        cases e
        have := (hown.lt ad.block rfl).1
        have := hN _ hf
        omega

set_option maxRecDepth 100000 in
set_option maxHeartbeats 1000000 in
theorem rpad_walk (bv : Value) (l : List Int) (n : Nat) (hs : Src w 1 bv l.length (bys l)) (hl : l.length ≤ 100000) (hn : n ≤ 100000) :
    Calls Try.prog 52 #[bv, .int .i64 (n : Int)] w fun e w' => ∃ A c, e = .returned (.slice A (padTo l n).length c) ∧ (padTo l n).length ≤ c ∧ Src w' 1 (.slice A (padTo l n).length c) (padTo l n).length (bys (padTo l n)) ∧ Evo (fun _ => False) w w' := by
  obtain ⟨i5, hi5, hz5, hs5, hb5⟩ := info_parts Try.info5
  obtain ⟨A, ca, rfl, hca⟩ : ∃ A c, bv = .slice A l.length c ∧ l.length ≤ c := by obtain ⟨A, c, e, h, _⟩ := hs; exact ⟨A, c, e, h⟩
  obtain ⟨A1, c1, w1, hr1, ho1, hg1⟩ := run_append_fresh (P := Try.prog) w 22 22 5 i5 _ 1 1 Try.underlying22 hi5 hz5 hs5 hb5 rfl (by omega) _ l.length _ hs (bys_one _) (by simp only [maxLen]; omega) (by omega)
  have e1 : Evo (fun _ => False) w w1 := (Evo.refl _ w).grown hg1 (fun _ hf => by cases hf)
  have hlen : (padTo l n).length = l.length + (n - l.length) := by simp [padTo]
  obtain ⟨R, hR⟩ : ∃ R, padTo l n = R := ⟨_, rfl⟩
  have hR2 : ∀ k, l.length ≤ k → k < l.length + (n - l.length) → R.take (k + 1) = R.take k ++ [0] := fun k h1 h2 => by
    rw [← hR] at *
    rw [List.take_succ_eq_append_getElem (by omega)]
    congr 2
    simp only [padTo]
    rw [List.getElem_append_right h1]
    simp
  have hR1 : R.take l.length = l := by rw [← hR]; simp [padTo]
  rw [hR] at hlen ⊢
  obtain ⟨N, hN⟩ : ∃ N, R.length = N := ⟨_, rfl⟩
  rw [hN] at hlen ⊢
  have HR1 := Lib.hid hR1
  have HR2 := Lib.hid hR2
  have Hlen := Lib.hid hlen
  have HN := Lib.hid hN
  have Hr1 := Lib.hid hr1
  clear hR hR1 hR2 hlen hN hr1
  go_enter Try.func52, Try.ntmps52
  go_wp2_with (at_builtin; refine wpList_run rfl (run_op_append rfl Hr1.out) ?_)
  go_loopg [5] (N - l.length) (fun g v wx => ∃ k : Nat, l.length ≤ k ∧ k ≤ N ∧ g = N - k ∧ ∃ (X : Option Addr) (c : Nat), v = .slice X k c ∧ wx.ownsRow w.heap.size 5 1 (.slice X k c) k (bys (R.take k)) ∧ Evo (fun _ => False) w wx)
  case atStart => exact ⟨l.length, Nat.le_refl _, by have := Hlen.out; omega, rfl, A1, c1, rfl, by rw [HR1.out]; exact ho1, e1⟩
  case round =>
    obtain ⟨k, hkl, hkN, rfl, X, c, rfl, hown, hev⟩ := hrel
    by_cases hk : k < n
    · have hkz : (k : Int) < (n : Int) := by omega
      have hlen := Hlen.out
      obtain ⟨v2, w2, hr2, ho2, hg2, _⟩ := run_append_src (P := Try.prog) (wr.alloc (.cells #[.int .u8 0] 5)) w.heap.size 22 22 5 i5 _ 1 1 Try.underlying22 hi5 hz5 hs5 hb5 rfl (by omega) (.slice X k c) k _ (hown.alloc _) (.slice (some ⟨wr.heap.size, 0, none⟩) 1 1) 1 [.int .u8 0]
        (Src.laid _ _ _ _ _ rfl) (by simp [Value.oneCell']) (by simp only [maxLen]; omega) (by omega) (by have := hev.size; simp; omega)
      obtain ⟨X', c', rfl, _⟩ := ownsRow_slice ho2
      have he2 : Evo (fun _ => False) w w2 := (hev.alloc _).trans ((Evo.refl (fun g => w.heap.size ≤ g) _).grown hg2 (fun g hg => .inl (hown.lt g hg).1)) (fun g hg => .inr hg)
      have ho3 : w2.ownsRow w.heap.size 5 1 (.slice X' (k + 1) c') (k + 1) (bys (R.take (k + 1))) := by
        rw [HR2.out k hkl (by omega), bys_append]
        exact ho2
      have hk1 : k + 1 ≤ N := by omega
      have Hr := Lib.hid hr2
      clear hr2 ho2 hlen hg2
      go_wp2_with (at_builtin; refine wpList_run rfl (run_op_append rfl Hr.out) ?_)
      go_roundg (N - (k + 1))
      case measure => omega
      case rel => exact ⟨k + 1, by omega, hk1, rfl, X', c', rfl, ho3, he2⟩
    · have hkz : ¬ (k : Int) < (n : Int) := by omega
      obtain rfl : k = N := by have := Hlen.out; omega
      go_wp2
      go_ret
      have := Src.of_own hown
      rw [List.take_of_length_le (by rw [HN.out]; exact Nat.le_refl _)] at this
      obtain ⟨_, _, e2, hc2⟩ := ownsRow_slice hown
      cases e2
      exact ⟨X, c, rfl, hc2, this, hev⟩

set_option maxRecDepth 100000 in
set_option maxHeartbeats 1000000 in
theorem rwith_walk (hN : ∀ k, N k → k < w.heap.size) (lv bv : Value) (ls : List (List Int)) (b : List Int) (hl : RowOf N w lv ls) (i : Nat) (hi : i < ls.length) (hn : ls.length ≤ 1000) (hb : SrcN N w 1 bv b.length (bys b)) :
    Calls Try.prog 54 #[lv, .int .i64 (i : Int), bv] w fun e w' => ∃ A c, e = .returned (.slice A ls.length c) ∧ RowOf N w' (.slice A ls.length c) (ls.set i b) ∧ (∀ ad, A = some ad → w.heap.size ≤ ad.block ∧ KindN N w' 22 ad.block) ∧ Evo (fun _ => False) w w' := by
  obtain ⟨i22, hi22, hz22, hs22, hb22⟩ := info_parts Try.info22
  obtain ⟨L, cl, rfl, hcl⟩ := hl.form
  obtain ⟨B, cb, rfl, hcb⟩ : ∃ A c, bv = .slice A b.length c ∧ b.length ≤ c := by obtain ⟨A, c, e, h, _⟩ := hb.1; exact ⟨A, c, e, h⟩
  obtain ⟨vs, hv1, hv2, hv3⟩ := hl
  have hone : ∀ u ∈ vs, u.oneCell' = true := fun u hu => by
    obtain ⟨j, hj, e⟩ := List.mem_iff_getElem.1 hu
    obtain ⟨A, c, e', _⟩ := (hv3 j (ls[j]'(by omega)) u (List.getElem?_eq_getElem (by omega)) (by rw [← e]; exact List.getElem?_eq_getElem hj)).1
    rw [e']; rfl
  obtain ⟨A1, c1, w1, hr1, ho1, hg1⟩ := run_append_fresh (P := Try.prog) w 53 53 22 i22 _ 1 24 Try.underlying53 hi22 hz22 hs22 hb22 rfl (by omega) _ ls.length _ hv2.1 hone (by simp only [maxLen]; omega) (by omega)
  have e1 : Evo (fun _ => False) w w1 := (Evo.refl _ w).grown hg1 (fun _ hf => by cases hf)
  obtain ⟨hlen, ⟨e0, h0⟩ | ⟨g, cap, cur, e0, hge, hgg, hnc, hcm, hcs, htk⟩⟩ := ho1
  · omega
  cases e0
  obtain ⟨u0, ci⟩ : ∃ u0, w1.cell? ⟨g, i, none⟩ = some u0 := ⟨_, by rw [cell_of_row _ _ i _ _ _ hgg]; exact Array.getElem?_eq_getElem (by omega)⟩
  have fi : w1.frozen? ⟨g, i, none⟩ = false := by simp [World.frozen?, hgg]
  have hiz : (i : Int) < (ls.length : Int) := by omega
  have ef : Evo (fun _ => False) w (w1.setCell ⟨g, i, none⟩ (.slice B b.length cb)) := e1.setCell (p := ⟨g, i, none⟩) (.inr hge) _
  have hrow : RowOf N (w1.setCell ⟨g, i, none⟩ (.slice B b.length cb)) (.slice (some ⟨g, 0, none⟩) ls.length c1) (ls.set i b) := by
    have hgg' := show (w1.setCell ⟨g, i, none⟩ (.slice B b.length cb)).heap[g]? = some (.cells (cur.setIfInBounds i (.slice B b.length cb)) 22 (0, 0)) by simp [World.setCell, Array.getElem?_modify, hgg]
    refine ⟨vs.set i (.slice B b.length cb), by simp [hv1], ⟨⟨some ⟨g, 0, none⟩, c1, by simp, by simp; omega, by simp [hv1], fun j u hu => ⟨_, rfl, ?_⟩⟩, fun _ ad c e hf => ?_⟩, fun j x u hx hu => ?_⟩
    · rw [Addr.add_mid, Nat.zero_add, cell_of_row _ _ j _ _ _ hgg']
      by_cases hji : j = i
      · subst hji
        rw [List.getElem?_set_self (by omega)] at hu
        cases hu
        rw [Array.getElem?_setIfInBounds_self_of_lt (by omega)]
      · rw [List.getElem?_set_ne (fun e => hji e.symm)] at hu
        rw [Array.getElem?_setIfInBounds_ne (fun e => hji e.symm)]
        rw [← htk, List.getElem?_take] at hu
        split at hu
        · simpa using hu
        · cases hu
    · have e' : some (⟨g, 0, none⟩ : Addr) = some ad := by injection e
      cases e'
      have := hN _ hf
      have hge' : w.heap.size ≤ g := hge
      simp at this
      omega
    · by_cases hji : j = i
      · subst hji
        rw [List.getElem?_set_self (by omega)] at hu hx
        cases hu
        cases hx
        exact hb.evo0 ef
      · rw [List.getElem?_set_ne (fun e => hji e.symm)] at hu hx
        exact (hv3 j x u hx hu).evo0 ef
  have hkd : KindN N (w1.setCell ⟨g, i, none⟩ (.slice B b.length cb)) 22 g := ⟨⟨cur.setIfInBounds i (.slice B b.length cb), (0, 0), by simp [World.setCell, Array.getElem?_modify, hgg]⟩, fun hf => by have := hN _ hf; omega⟩
  have Hkd := Lib.hid hkd
  clear hkd
  have Hr1 := Lib.hid hr1
  have Hrow := Lib.hid hrow
  clear hr1 hrow hlen htk hcs
  go_enter Try.func54, Try.ntmps54
  go_wp2_with (at_builtin; refine wpList_run rfl (run_op_append rfl Hr1.out) ?_)
  go_ret
  exact ⟨_, _, rfl, Hrow.out, fun ad e => by cases e; exact ⟨hge, Hkd.out⟩, ef⟩
end

end Go.Proofs.Ytnndkameadlkdaa
