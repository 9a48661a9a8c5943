/- Traces as data; the first read that is not straight; what it is of a longer trace, and of what is ahead of it. -/
import Derived.Test.YtelljdkcgipkkaaEq
namespace Go.Proofs.Ytelljdkcgipkkaa
open Go.RowKit

structure TrD where
  kind : Int
  at_ : Int
  slot : Int
  bv : Value
  b : List Int

def pad272 (l : List Int) : List Int := (padTo l 272).take 272
def putS (S : Int → Int → List Int) (a s : Int) (l : List Int) : Int → Int → List Int := fun a' s' => if a' = a ∧ s' = s then l else S a' s'

def strF : List TrD → (Int → Int → List Int) → Nat → Option Nat
  | [], _, _ => none
  | x :: r, S, i => if x.kind = 2 then strF r (putS S x.at_ x.slot (pad272 x.b)) (i + 1) else if x.kind = 1 then (if S x.at_ x.slot = x.b then strF r S (i + 1) else some i) else strF r S (i + 1)

theorem strF_ge : ∀ (t : List TrD) (S : Int → Int → List Int) (i j : Nat), strF t S i = some j → i ≤ j ∧ j < i + t.length
  | [], _, _, _, h => by cases h
  | x :: r, S, i, j, h => by
    unfold strF at h
    have hr : ∀ S', strF r S' (i + 1) = some j → i ≤ j ∧ j < i + (x :: r).length := fun S' h' => by
      have := strF_ge r S' (i + 1) j h'
      simp only [List.length_cons]
      omega
    split at h
    · exact hr _ h
    split at h
    · split at h
      · exact hr _ h
      · cases h; simp
    · exact hr _ h

theorem strF_more : ∀ (t m : List TrD) (S : Int → Int → List Int) (i j : Nat), strF t S i = some j → strF (t ++ m) S i = some j
  | [], _, _, _, _, h => by cases h
  | x :: r, m, S, i, j, h => by
    rw [List.cons_append]
    unfold strF at h ⊢
    split at h
    · rename_i h2; rw [if_pos h2]; exact strF_more r m _ _ _ h
    · rename_i h2
      rw [if_neg h2]
      split at h
      · rename_i h1
        rw [if_pos h1]
        split at h
        · rename_i h0; rw [if_pos h0]; exact strF_more r m _ _ _ h
        · rename_i h0; rw [if_neg h0]; exact h
      · rename_i h1; rw [if_neg h1]; exact strF_more r m _ _ _ h

theorem strF_behind : ∀ (t m : List TrD) (S : Int → Int → List Int) (i : Nat), strF t S i = none → ∃ S', strF (t ++ m) S i = strF m S' (i + t.length)
  | [], m, S, i, _ => ⟨S, rfl⟩
  | x :: r, m, S, i, h => by
    rw [List.cons_append]
    have hx : ∀ l, strF (x :: l) S i = (if x.kind = 2 then strF l (putS S x.at_ x.slot (pad272 x.b)) (i + 1) else if x.kind = 1 then (if S x.at_ x.slot = x.b then strF l S (i + 1) else some i) else strF l S (i + 1)) := fun l => by rw [strF]
    rw [hx] at h ⊢
    have hr : ∀ S1, strF r S1 (i + 1) = none → ∃ S', strF (r ++ m) S1 (i + 1) = strF m S' (i + (x :: r).length) := fun S1 h' => by
      obtain ⟨S', e⟩ := strF_behind r m S1 (i + 1) h'
      refine ⟨S', ?_⟩
      rw [e]
      congr 1
      simp only [List.length_cons]
      omega
    split at h
    · rename_i h2; rw [if_pos h2]; exact hr _ h
    · rename_i h2
      rw [if_neg h2]
      split at h
      · rename_i h1
        rw [if_pos h1]
        split at h
        · rename_i h0; rw [if_pos h0]; exact hr _ h
        · cases h
      · rename_i h1; rw [if_neg h1]; exact hr _ h

/-- Ahead of it there is none; with it, it is it. -/
theorem strF_ahead : ∀ (t : List TrD) (S : Int → Int → List Int) (i j : Nat), strF t S i = some j → strF (t.take (j - i)) S i = none ∧ strF (t.take (j - i + 1)) S i = some j
  | [], _, _, _, h => by cases h
  | x :: r, S, i, j, h => by
    have hge := strF_ge (x :: r) S i j h
    unfold strF at h
    have hr : ∀ S1, strF r S1 (i + 1) = some j → i + 1 ≤ j ∧ strF (r.take (j - i - 1)) S1 (i + 1) = none ∧ strF (r.take (j - i)) S1 (i + 1) = some j := fun S1 h' => by
      obtain ⟨h1, h2⟩ := strF_ahead r S1 (i + 1) j h'
      have h3 := strF_ge r S1 (i + 1) j h'
      have e1 : j - (i + 1) = j - i - 1 := by omega
      have e2 : j - (i + 1) + 1 = j - i := by omega
      rw [e2] at h2
      rw [e1] at h1
      exact ⟨h3.1, h1, h2⟩
    have step : ∀ n, (x :: r).take (n + 1) = x :: r.take n := fun n => rfl
    have fin : ∀ S1, strF r S1 (i + 1) = some j → (∀ l, strF (x :: l) S i = strF l S1 (i + 1)) → strF ((x :: r).take (j - i)) S i = none ∧ strF ((x :: r).take (j - i + 1)) S i = some j := fun S1 h' hl => by
      obtain ⟨a1, a2, a3⟩ := hr S1 h'
      have e : j - i = (j - i - 1) + 1 := by omega
      refine ⟨?_, ?_⟩
      · rw [e, step, hl]; exact a2
      · rw [step, hl]; exact a3
    split at h
    · rename_i h2; exact fin _ h (fun l => by rw [strF, if_pos h2])
    · rename_i h2
      split at h
      · rename_i h1
        split at h
        · rename_i h0; exact fin _ h (fun l => by rw [strF, if_neg h2, if_pos h1, if_pos h0])
        · rename_i h0
          cases h
          refine ⟨by simp [strF], ?_⟩
          rw [Nat.sub_self, step]
          rw [strF, if_neg h2, if_pos h1, if_neg h0]
      · rename_i h1; exact fin _ h (fun l => by rw [strF, if_neg h2, if_neg h1])

end Go.Proofs.Ytelljdkcgipkkaa
