/- A region that draws its order, carried out by a plan: what only reads, taken first; of two actions that may come in either order, both ways. -/
import Derived.Test.YtnndkameadlkdaaGenD
namespace Go.Proofs.Ytnndkameadlkdaa
open Go.RowKit

inductive Plan where
  | done : Plan
  | rd (i : Nat) (p : Plan) : Plan
  | act (i : Nat) (p : Plan) : Plan
  | two (i : Nat) (p : Plan) (j : Nat) (q : Plan) : Plan

/-- so many reads, then on -/
def Plan.rds : List Nat → Plan → Plan
  | [], p => p
  | i :: r, p => .rd i (Plan.rds r p)

section
variable {P : Program} {ops : Array Oper} {Q : Exit → Act → World → Prop} {S : World → Prop}

def wpPlan (P : Program) (ops : Array Oper) (Q : Exit → Act → World → Prop) (S : World → Prop) : Plan → Act → World → Prop
  | .done, a, w => Q .normal a w
  | .rd i p, a, w => ∃ o v, ops[i]? = some o ∧ YieldsIf P ops S o v a ∧ wpPlan P ops Q S p (a.put o.dst v) w
  | .act i p, a, w => wpOp P ops Q i (fun a' w' => S w' ∧ wpPlan P ops Q S p a' w') a w
  | .two i p j q, a, w => wpOp P ops Q i (fun a' w' => S w' ∧ wpPlan P ops Q S p a' w') a w ∧ wpOp P ops Q j (fun a' w' => S w' ∧ wpPlan P ops Q S q a' w') a w

def planOk (ops : Array Oper) : Plan → Nat → Array Bool → Bool
  | .done, n, listed => n == 0 && (Region.ready .any ops listed).isEmpty
  | .rd i p, n, listed => match n with
    | 0 => false
    | n + 1 => (Region.ready .any ops listed).contains i && Region.free .any ops listed i && planOk ops p n (listed.setIfInBounds i true)
  | .act i p, n, listed => match n with
    | 0 => false
    | n + 1 => Region.ready .any ops listed == [i] && planOk ops p n (listed.setIfInBounds i true)
  | .two i p j q, n, listed => match n with
    | 0 => false
    | n + 1 => Region.ready .any ops listed == [i, j] && planOk ops p n (listed.setIfInBounds i true) && planOk ops q n (listed.setIfInBounds j true)

theorem wpAnyH_of_plan (hs : Region.noSelect ops = true) (hQ : ∀ c a d v w, Q (.panic c) (a.put (some d) v) w → Q (.panic c) a w) :
    ∀ (p : Plan) (n : Nat) (listed : Array Bool) (a : Act) (w : World), planOk ops p n listed = true → S w → wpPlan P ops Q S p a w → wpAnyH P .any ops Q S n listed a w
  | .done, n, listed, a, w, hok, _, h => by
    unfold planOk at hok
    rw [Bool.and_eq_true] at hok
    obtain rfl : n = 0 := by simpa using hok.1
    exact ⟨by simpa using hok.2, h⟩
  | .rd i p, 0, listed, a, w, hok, hS, h => by simp [planOk] at hok
  | .rd i p, n + 1, listed, a, w, hok, hS, h => by
    simp only [planOk, Bool.and_eq_true] at hok
    obtain ⟨o, v, ho, hy, h⟩ := h
    exact wpAnyH_take ho hs hok.1.2 hok.1.1 (fun c a' w' hq => by
      cases hd : o.dst with
      | none => rw [hd] at hq; exact hq
      | some d => rw [hd] at hq; exact hQ _ _ _ _ _ hq) hy hS (wpAnyH_of_plan hs hQ p n _ _ _ hok.2 hS h)
  | .act i p, 0, listed, a, w, hok, hS, h => by simp [planOk] at hok
  | .act i p, n + 1, listed, a, w, hok, hS, h => by
    simp only [planOk, Bool.and_eq_true] at hok
    have hrd : Region.ready .any ops listed = [i] := by simpa using hok.1
    refine ⟨fun h0 => (by rw [hrd] at h0; cases h0), fun j hj => ?_⟩
    rw [hrd] at hj
    have hj' : j = i := by simpa using hj
    subst hj'
    exact wpOp_mono (fun a' w' h' => ⟨h'.1, wpAnyH_of_plan hs hQ p n _ a' w' hok.2 h'.1 h'.2⟩) h
  | .two i p j q, 0, listed, a, w, hok, hS, h => by simp [planOk] at hok
  | .two i p j q, n + 1, listed, a, w, hok, hS, h => by
    simp only [planOk, Bool.and_eq_true] at hok
    have hrd : Region.ready .any ops listed = [i, j] := by simpa using hok.1.1
    refine ⟨fun h0 => (by rw [hrd] at h0; cases h0), fun k hk => ?_⟩
    rw [hrd] at hk
    have hk' : k = i ∨ k = j := by simpa using hk
    rcases hk' with rfl | rfl
    · exact wpOp_mono (fun a' w' h' => ⟨h'.1, wpAnyH_of_plan hs hQ p n _ a' w' hok.1.2 h'.1 h'.2⟩) h.1
    · exact wpOp_mono (fun a' w' h' => ⟨h'.1, wpAnyH_of_plan hs hQ q n _ a' w' hok.2 h'.1 h'.2⟩) h.2

theorem wp_region_plan {id : Nat} {a : Act} {w : World} (S : World → Prop) (p : Plan) (n : Nat) (hm : P.follows .mixedOrders = true) (hs : Region.noSelect ops = true) (hn : n = ops.size)
    (hok : planOk ops p n (Array.replicate ops.size false) = true) (hQ : ∀ c a d v w, Q (.panic c) (a.put (some d) v) w → Q (.panic c) a w) (hS : S w.drew)
    (h : wpPlan P ops Q S p a w.drew) : (Code.region id ops true).wp P Q a w := by
  refine wp_region_any hm ?_
  rw [← hn]
  exact wpAny_of_held _ _ _ _ (wpAnyH_of_plan hs hQ p n _ a _ (by rw [hn] at hok ⊢; exact hok) hS h)

theorem plan_read {i : Nat} {p : Plan} {a : Act} {w : World} {o : Oper} {v : Value} (ho : ops[i]? = some o) (hw : Region.wanted o (yielded ops a.tmps) = true)
    (hy : ∀ w, S w → (execOp a.eval o).run P w = .ok (.value v) w) (h : wpPlan P ops Q S p (a.put o.dst v) w) : wpPlan P ops Q S (.rd i p) a w := ⟨o, v, ho, Or.inl ⟨hw, hy⟩, h⟩
theorem plan_pass {i : Nat} {p : Plan} {a : Act} {w : World} {o : Oper} (ho : ops[i]? = some o) (hw : Region.wanted o (yielded ops a.tmps) = false)
    (h : wpPlan P ops Q S p (a.put o.dst undef) w) : wpPlan P ops Q S (.rd i p) a w := ⟨o, undef, ho, Or.inr ⟨hw, rfl⟩, h⟩
theorem plan_op {i : Nat} {p : Plan} {a : Act} {w : World} {o : Oper} (ho : ops[i]? = some o) (hw : Region.wanted o (yielded ops a.tmps) = true)
    (h : Oper.wp P o a w (fun a' w' => S w' ∧ wpPlan P ops Q S p a' w') Q) : wpOp P ops Q i (fun a' w' => S w' ∧ wpPlan P ops Q S p a' w') a w := by
  unfold wpOp
  rw [ho]
  simp only [hw, if_true]
  exact Or.inl h
theorem plan_act {i : Nat} {p : Plan} {a : Act} {w : World} {o : Oper} (ho : ops[i]? = some o) (hw : Region.wanted o (yielded ops a.tmps) = true)
    (h : Oper.wp P o a w (fun a' w' => S w' ∧ wpPlan P ops Q S p a' w') Q) : wpPlan P ops Q S (.act i p) a w := plan_op ho hw h
theorem plan_two {i j : Nat} {p q : Plan} {a : Act} {w : World} (h1 : wpOp P ops Q i (fun a' w' => S w' ∧ wpPlan P ops Q S p a' w') a w) (h2 : wpOp P ops Q j (fun a' w' => S w' ∧ wpPlan P ops Q S q a' w') a w) :
    wpPlan P ops Q S (.two i p j q) a w := ⟨h1, h2⟩
theorem plan_done {a : Act} {w : World} (h : Q .normal a w) : wpPlan P ops Q S .done a w := h
end

end Go.Proofs.Ytnndkameadlkdaa
