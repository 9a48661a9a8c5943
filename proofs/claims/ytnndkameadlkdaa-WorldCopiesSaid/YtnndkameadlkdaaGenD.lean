/- A region that draws its order, carried out in one order that the prover names: what only reads, taken first; what acts, one behind the other. -/
import Derived.Test.YtnndkameadlkdaaGenC
import Derived.OrdersHeld
namespace Go.Proofs.Ytnndkameadlkdaa
open Go.RowKit

section
variable {P : Program} {ops : Array Oper} {Q : Exit → Act → World → Prop} {S : World → Prop}

/-- The operations 'sg' one behind the other; those of 'rd' only read. -/
def wpSeq (P : Program) (ops : Array Oper) (Q : Exit → Act → World → Prop) (S : World → Prop) (rd : List Nat) : List Nat → Act → World → Prop
  | [], a, w => Q .normal a w
  | i :: rest, a, w =>
    if rd.contains i then ∃ o v, ops[i]? = some o ∧ YieldsIf P ops S o v a ∧ wpSeq P ops Q S rd rest (a.put o.dst v) w
    else wpOp P ops Q i (fun a' w' => S w' ∧ wpSeq P ops Q S rd rest a' w') a w

/-- Is that one of the orders, and does it speak for all? -/
def seqOk (ops : Array Oper) (rd : List Nat) : List Nat → Array Bool → Bool
  | [], listed => (Region.ready .any ops listed).isEmpty
  | i :: rest, listed =>
    (if rd.contains i then (Region.ready .any ops listed).contains i && Region.free .any ops listed i else Region.ready .any ops listed == [i]) && seqOk ops rd rest (listed.setIfInBounds i true)

theorem wpAnyH_of_seq {rd : List Nat} (hs : Region.noSelect ops = true) (hQ : ∀ c a d v w, Q (.panic c) (a.put (some d) v) w → Q (.panic c) a w) :
    ∀ (sg : List Nat) (listed : Array Bool) (a : Act) (w : World), seqOk ops rd sg listed = true → S w → wpSeq P ops Q S rd sg a w → wpAnyH P .any ops Q S sg.length listed a w
  | [], listed, a, w, hok, _, h => ⟨by simpa [seqOk] using hok, h⟩
  | i :: rest, listed, a, w, hok, hS, h => by
    unfold seqOk at hok
    rw [Bool.and_eq_true] at hok
    unfold wpSeq at h
    by_cases hr : rd.contains i = true
    · rw [if_pos hr] at hok h
      obtain ⟨o, v, ho, hy, h⟩ := h
      have h1 := Bool.and_eq_true .. ▸ hok.1
      exact wpAnyH_take ho hs h1.2 h1.1 (fun c a' w' hq => by
        cases hd : o.dst with
        | none => rw [hd] at hq; exact hq
        | some d => rw [hd] at hq; exact hQ _ _ _ _ _ hq) hy hS (wpAnyH_of_seq hs hQ rest _ _ _ hok.2 hS h)
    · rw [if_neg hr] at hok h
      have hrd : Region.ready .any ops listed = [i] := by simpa using hok.1
      refine ⟨fun h0 => (by rw [hrd] at h0; cases h0), fun j hj => ?_⟩
      rw [hrd] at hj
      have hj' : j = i := by simpa using hj
      subst hj'
      exact wpOp_mono (fun a' w' h' => ⟨h'.1, wpAnyH_of_seq hs hQ rest _ a' w' hok.2 h'.1 h'.2⟩) h

/-- The region, in the order sg. -/
theorem wp_region_seq {id : Nat} {a : Act} {w : World} (S : World → Prop) (rd sg : List Nat) (hm : P.follows .mixedOrders = true) (hs : Region.noSelect ops = true) (hn : sg.length = ops.size)
    (hok : seqOk ops rd sg (Array.replicate ops.size false) = true) (hQ : ∀ c a d v w, Q (.panic c) (a.put (some d) v) w → Q (.panic c) a w) (hS : S w.drew)
    (h : wpSeq P ops Q S rd sg a w.drew) : (Code.region id ops true).wp P Q a w := by
  refine wp_region_any hm ?_
  rw [← hn]
  exact wpAny_of_held _ _ _ _ (wpAnyH_of_seq hs hQ sg _ a _ (by rw [hn]; exact hok) hS h)

/-- The same, where the last operation comes behind all others: S is not asked behind it. -/
theorem wp_region_seq_last {id : Nat} {l : List Oper} {a : Act} {w : World} (S : World → Prop) (rd sg : List Nat) {pre : List Oper} {last : Oper} (hl : l = pre ++ [last]) (hm : P.follows .mixedOrders = true)
    (hc : comesLast l.toArray pre.length = true) (hb : backward l = true) (hs : Region.noSelect pre.toArray = true) (hn : sg.length = pre.length)
    (hok : seqOk pre.toArray rd sg (Array.replicate pre.length false) = true) (hQ : ∀ c a d v w, Q (.panic c) (a.put (some d) v) w → Q (.panic c) a w) (hS : S w.drew)
    (h : wpSeq P pre.toArray (lastPost P l.toArray pre.length Q) S rd sg a w.drew) : (Code.region id l.toArray true).wp P Q a w := by
  subst hl
  refine wp_region_last hm hc hb ?_
  have h2 := wpAny_of_held _ _ _ _ (wpAnyH_of_seq (P := P) (Q := lastPost P (pre ++ [last]).toArray pre.length Q) hs (fun c a d v w h => hQ c a d v w h) sg (Array.replicate pre.length false) a _ hok hS h)
  have e2 : pre.toArray.size = sg.length := by simp [hn]
  rw [e2]
  have e3 : Array.replicate sg.length false = Array.replicate pre.length false := by rw [hn]
  rw [e3]
  exact h2

/-- .. the last one read off the list. -/
theorem wp_region_seq_drop {id : Nat} {l : List Oper} {a : Act} {w : World} (S : World → Prop) (rd sg : List Nat) (k : Nat) (hm : P.follows .mixedOrders = true) (hk : l.length = k + 1)
    (hc : comesLast l.toArray k = true) (hb : backward l = true) (hs : Region.noSelect l.dropLast.toArray = true) (hn : sg.length = k)
    (hok : seqOk l.dropLast.toArray rd sg (Array.replicate k false) = true) (hQ : ∀ c a d v w, Q (.panic c) (a.put (some d) v) w → Q (.panic c) a w) (hS : S w.drew)
    (h : wpSeq P l.dropLast.toArray (lastPost P l.toArray k Q) S rd sg a w.drew) : (Code.region id l.toArray true).wp P Q a w := by
  have hne : l ≠ [] := by rintro rfl; simp at hk
  have e : l.dropLast.length = k := by simp [hk]
  exact wp_region_seq_last S rd sg (pre := l.dropLast) (last := l.getLast hne) (List.dropLast_concat_getLast hne).symm hm (by rw [e]; exact hc) hb hs (by rw [e]; exact hn) (by rw [e]; exact hok) hQ hS (by rw [e]; exact h)

/-! the steps -/
theorem seq_read {rd : List Nat} {i : Nat} {rest : List Nat} {a : Act} {w : World} {o : Oper} {v : Value} (hr : rd.contains i = true) (ho : ops[i]? = some o) (hw : Region.wanted o (yielded ops a.tmps) = true)
    (hy : ∀ w, S w → (execOp a.eval o).run P w = .ok (.value v) w) (h : wpSeq P ops Q S rd rest (a.put o.dst v) w) : wpSeq P ops Q S rd (i :: rest) a w := by
  unfold wpSeq
  rw [if_pos hr]
  exact ⟨o, v, ho, Or.inl ⟨hw, hy⟩, h⟩
/-- A read that its guard passes over. -/
theorem seq_pass {rd : List Nat} {i : Nat} {rest : List Nat} {a : Act} {w : World} {o : Oper} (hr : rd.contains i = true) (ho : ops[i]? = some o) (hw : Region.wanted o (yielded ops a.tmps) = false)
    (h : wpSeq P ops Q S rd rest (a.put o.dst undef) w) : wpSeq P ops Q S rd (i :: rest) a w := by
  unfold wpSeq
  rw [if_pos hr]
  exact ⟨o, undef, ho, Or.inr ⟨hw, rfl⟩, h⟩
theorem seq_act {rd : List Nat} {i : Nat} {rest : List Nat} {a : Act} {w : World} {o : Oper} (hr : rd.contains i = false) (ho : ops[i]? = some o) (hw : Region.wanted o (yielded ops a.tmps) = true)
    (h : Oper.wp P o a w (fun a' w' => S w' ∧ wpSeq P ops Q S rd rest a' w') Q) : wpSeq P ops Q S rd (i :: rest) a w := by
  unfold wpSeq
  rw [hr]
  simp only [Bool.false_eq_true, if_false]
  unfold wpOp
  rw [ho]
  simp only [hw, if_true]
  exact Or.inl h
theorem seq_nil {rd : List Nat} {a : Act} {w : World} (h : Q .normal a w) : wpSeq P ops Q S rd [] a w := h
theorem last_act {k : Nat} {a : Act} {w : World} {o : Oper} (ho : ops[k]? = some o) (hw : Region.wanted o (yielded ops a.tmps) = true)
    (h : Oper.wp P o a w (Q .normal) Q) : lastPost P ops k Q .normal a w := by
  unfold lastPost wpOp
  simp only [ho, hw, if_true]
  exact Or.inl h
/-- An action by its run: it yields a value. -/
theorem seq_val {rd : List Nat} {i : Nat} {rest : List Nat} {a : Act} {w w' : World} {o : Oper} {v : Value} (hr : rd.contains i = false) (ho : ops[i]? = some o) (hw : Region.wanted o (yielded ops a.tmps) = true)
    (hrun : (execOp a.eval o).run P w = .ok (.value v) w') (hS : S w') (h : wpSeq P ops Q S rd rest (a.put o.dst v) w') : wpSeq P ops Q S rd (i :: rest) a w :=
  seq_act hr ho hw (wp_val hrun ⟨hS, h⟩)
theorem seq_void {rd : List Nat} {i : Nat} {rest : List Nat} {a : Act} {w w' : World} {o : Oper} (hr : rd.contains i = false) (ho : ops[i]? = some o) (hw : Region.wanted o (yielded ops a.tmps) = true)
    (hrun : (execOp a.eval o).run P w = .ok .skip w') (hS : S w') (h : wpSeq P ops Q S rd rest (a.put o.dst undef) w') : wpSeq P ops Q S rd (i :: rest) a w :=
  seq_act hr ho hw (wp_void hrun ⟨hS, h⟩)
/-- An action that 'go_simp' runs: what follows is hidden from it. -/
theorem wp_k {o : Oper} {a : Act} {w : World} {K : Act → World → Prop} (h : ∀ K' : Act → World → Prop, (∀ a w, K a w → K' a w) → o.wp P a w K' Q) : o.wp P a w K Q := h K (fun _ _ h => h)
/-- A call of a Go function, by its contract. -/
theorem wp_call {o : Oper} {a : Act} {w : World} {K : Act → World → Prop} {f : FuncId} {args : Array Value} (hrun : (execOp a.eval o).run P w = .ok (.enter f args) w)
    {R : Ending → World → Prop} (hc : Calls P f args w R) (h : ∀ e w', R e w' → ∃ v, e = .returned v ∧ K (a.put o.dst v) w') : o.wp P a w K Q := by
  unfold Oper.wp
  rw [hrun]
  simp only [Oper.upon]
  refine hc.mono fun e w' hr => ?_
  obtain ⟨v, rfl, hk⟩ := h e w' hr
  exact hk
theorem seq_call {rd : List Nat} {i : Nat} {rest : List Nat} {a : Act} {w : World} {o : Oper} {f : FuncId} {args : Array Value} (hr : rd.contains i = false) (ho : ops[i]? = some o) (hw : Region.wanted o (yielded ops a.tmps) = true)
    (hrun : (execOp a.eval o).run P w = .ok (.enter f args) w) {R : Ending → World → Prop} (hc : Calls P f args w R)
    (h : ∀ e w', R e w' → ∃ v, e = .returned v ∧ S w' ∧ wpSeq P ops Q S rd rest (a.put o.dst v) w') : wpSeq P ops Q S rd (i :: rest) a w :=
  seq_act hr ho hw (wp_call hrun hc h)
end

end Go.Proofs.Ytnndkameadlkdaa
