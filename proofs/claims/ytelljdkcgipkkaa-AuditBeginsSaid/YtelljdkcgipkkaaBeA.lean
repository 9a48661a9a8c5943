/- The traces that came in; the walk of the reference's Long. -/
import Derived.Test.YtelljdkcgipkkaaStD
import Derived.Test.YtelljdkcgipkkaaKo
namespace Go.Proofs.Ytelljdkcgipkkaa
open Go.RowKit

/-- Traces that came in. -/
structure ArgT (w : World) (v : Value) (xs : List TrD) : Prop where
  src : Src w 4 v xs.length (xs.flatMap TrD.cells)
  each : ∀ x ∈ xs, Src w 1 x.bv x.b.length (bys x.b) ∧ Byt x.b ∧ x.b.length ≤ 140737488355328
  len : xs.length ≤ 140737488355328

def sumT : List TrD → Nat
  | [] => 0
  | x :: r => x.b.length + 1 + sumT r
theorem sumT_take (xs : List TrD) (i : Nat) (hi : i < xs.length) : sumT (xs.take (i + 1)) = sumT (xs.take i) + 1 + (xs[i]).b.length := by
  induction xs generalizing i with
  | nil => simp at hi
  | cons d ds ih =>
    cases i with
    | zero => simp [sumT]; omega
    | succ i =>
      simp only [List.take_succ_cons, sumT, List.getElem_cons_succ]
      rw [ih i (by simpa using hi)]
      omega
theorem sumT_le (xs : List TrD) (k : Nat) (h : ∀ d ∈ xs, d.b.length ≤ k) : sumT xs ≤ xs.length * (k + 1) := by
  induction xs with
  | nil => simp [sumT]
  | cons d ds ih =>
    have h1 := h d (by simp)
    have h2 := ih (fun x hx => h x (by simp [hx]))
    simp only [sumT, List.length_cons, Nat.add_mul]
    omega
theorem sumT_each {xs : List TrD} {x : TrD} (h : x ∈ xs) : x.b.length ≤ sumT xs := by
  induction xs with
  | nil => cases h
  | cons y ys ih =>
    rcases List.mem_cons.1 h with rfl | h
    · simp only [sumT]; omega
    · have := ih h; simp only [sumT]; omega
theorem ArgT.at {w : World} {A : Option Addr} {n c : Nat} {xs : List TrD} (h : ArgT w (.slice A n c) xs) {i : Nat} (hi : i < xs.length) : ∃ b o B d, A = some ⟨b, o, none⟩ ∧ w.cell? ⟨b, o + i * 4 + 3, none⟩ = some (.slice B (xs[i]).b.length d) := by
  obtain ⟨⟨A', c', e, hnc, hl, hc⟩, h2, _⟩ := h
  cases e
  have h0 := trCells_at xs 0 0 (by omega) (by omega)
  obtain ⟨⟨b, o, sp⟩, rfl, h0⟩ := hc (0 * 4 + 0) _ h0
  have hsp : sp = none := World.cell?_spot h0
  subst hsp
  obtain ⟨ad', e, h⟩ := hc (i * 4 + 3) (xs[i]).bv (by rw [trCells_at xs i 3 hi (by omega)]; rfl)
  cases e
  have e2 : ((⟨b, o, none⟩ : Addr).add (i * 4 + 3)) = ⟨b, o + i * 4 + 3, none⟩ := by
    unfold Addr.add
    split
    · omega
    · rw [Nat.add_assoc]
  rw [e2] at h
  obtain ⟨B, d, e, _⟩ := (h2 _ (List.getElem_mem hi)).1
  exact ⟨b, o, B, d, rfl, by rw [h, e]⟩

set_option maxRecDepth 100000 in
set_option maxHeartbeats 400000 in
theorem long_walk (w : World) (v : Value) (xs : List TrD) (h : ArgT w v xs) (hn : xs.length ≤ 60) :
    Calls Try.prog 7 #[v] w fun e w' => e = .returned (.int .i64 (sumT xs)) ∧ w = w' := by
  obtain ⟨A, c, rfl, hc⟩ : ∃ A c, v = .slice A xs.length c ∧ xs.length ≤ c := by obtain ⟨A, c, e, h, _⟩ := h.src; exact ⟨A, c, e, h⟩
  have hs : ∀ k, sumT (xs.take k) ≤ 8444249301319740 := fun k => Nat.le_trans (sumT_le _ 140737488355328 (fun d hd => (h.each d (List.mem_of_mem_take hd)).2.2)) (Nat.le_trans (Nat.mul_le_mul_right _ (by rw [List.length_take]; omega : (xs.take k).length ≤ 60)) (by decide))
  have Hs := Lib.hid hs
  clear hs
  go_enter Try.func7, Try.ntmps7
  go_wp2
  go_loopg [3, 4] xs.length (fun g s i wx => ∃ k : Nat, k ≤ xs.length ∧ g = xs.length - k ∧ i = .int .i64 k ∧ s = .int .i64 (sumT (xs.take k)) ∧ w = wx)
  case atStart => exact ⟨0, by omega, rfl, rfl, rfl, rfl⟩
  case round =>
    obtain ⟨k, hk, rfl, rfl, rfl, rfl⟩ := hrel
    by_cases hkl : k < xs.length
    · have hkz : (k : Int) < (xs.length : Int) := by omega
      obtain ⟨pb, po, V, cv, rfl, hcell⟩ := h.at hkl
      have hs := Hs.out k
      have hbl := (h.each _ (List.getElem_mem hkl)).2.2
      have Hst := Lib.hid (sumT_take xs k hkl)
      go_wp2
      go_roundg (xs.length - (k + 1))
      case measure => omega
      case rel =>
        refine ⟨k + 1, by omega, rfl, by first | rfl | simp, ?_, rfl⟩
        rw [Hst.out]
        congr 1
    · obtain rfl : k = xs.length := by omega
      rw [List.take_length]
      go_wp2
      go_ret
      exact ⟨rfl, rfl⟩

end Go.Proofs.Ytelljdkcgipkkaa
