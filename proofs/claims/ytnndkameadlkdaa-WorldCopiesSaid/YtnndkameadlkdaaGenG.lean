/- Ranging over a map: what is still to come, said of the map's own function. -/
import Derived.Test.YtnndkameadlkdaaGenB
import Derived.Maps.RangeRun
import Derived.Maps.Range
namespace Go.Proofs.Ytnndkameadlkdaa
open Go.RowKit
open Go.MapKept (Stamped stamped_iff)

/-- 'for k, v := range m' under way: block b is the map, block r the iterator; 'left k': is the entry at k still to come? -/
def Ranging (w : World) (b r : Nat) (K : Value → Prop) (F : Value → Option Value) (left : Value → Bool) (cnt : Nat) : Prop :=
  ∃ es clock since seen c0, w.heap[b]? = some (.map es clock) ∧ Stamped es clock ∧ (∀ e ∈ es.toList, K e.key) ∧ (∀ e ∈ es.toList, F e.key = some e.val) ∧
    (∀ k v, F k = some v → ∃ e ∈ es.toList, e.key = k ∧ e.val = v) ∧ w.heap[r]? = some (.mapIter (some b) since seen c0) ∧ (∀ x ∈ es.toList, x.born < since) ∧ (leftOf es seen).size = cnt ∧
    (∀ x ∈ es.toList, left x.key = !seen.contains x.born) ∧ (∀ k, left k = true → ∃ x ∈ es.toList, x.key = k) ∧ since ≤ c0 ∧ since ≤ clock

section
variable {P : Program} {k e t : TypeId} {K : Value → Prop} {w : World} {b r : Nat} {F : Value → Option Value} {left : Value → Bool} {cnt : Nat}

theorem Ranging.isMap (h : Ranging w b r K F left cnt) : IsMap w b K F := by
  obtain ⟨es, clock, _, _, _, hb, h1, h2, h3, h4, _⟩ := h
  exact ⟨es, clock, hb, h1, h2, h3, h4⟩
theorem Ranging.ne (h : Ranging w b r K F left cnt) : r ≠ b := by
  obtain ⟨es, clock, _, _, _, hb, _, _, _, _, hr, _⟩ := h
  intro e
  rw [e, hb] at hr
  cases hr
theorem Ranging.lt (h : Ranging w b r K F left cnt) : r < w.heap.size := by
  obtain ⟨es, clock, _, _, _, hb, _, _, _, _, hr, _⟩ := h
  exact heap_lt hr
theorem Ranging.same {w' : World} (h : Ranging w b r K F left cnt) (hb' : w'.heap[b]? = w.heap[b]?) (hr' : w'.heap[r]? = w.heap[r]?) : Ranging w' b r K F left cnt := by
  obtain ⟨es, clock, s, sn, c0, hb, h1, h2, h3, h4, hr, h5⟩ := h
  exact ⟨es, clock, s, sn, c0, hb'.trans hb, h1, h2, h3, h4, hr'.trans hr, h5⟩
theorem Ranging.evo {w' : World} {G : Nat → Prop} (h : Ranging w b r K F left cnt) (he : Evo G w w') (hb : ¬ G b) (hr : ¬ G r) : Ranging w' b r K F left cnt :=
  h.same (he.block b h.isMap.lt hb) (he.block r h.lt hr)
theorem Ranging.is (h : Ranging w b r K F left cnt) {x : Value} (hx : left x = true) : ∃ v, F x = some v := by
  obtain ⟨es, clock, _, _, _, hb, _, _, h3, _, hr, _, _, _, h6, _⟩ := h
  obtain ⟨y, hy, rfl⟩ := h6 x hx
  exact ⟨_, h3 y hy⟩

/-- The start. -/
theorem IsMap.range (h : IsMap w b K F) (ht : P.underlying t = some (.map k e)) :
    ∃ w' cnt, (Instr.range t (.map (some b))).run P w = .ok (.pointer (some ⟨w.heap.size, 0, none⟩)) w' ∧ Ranging w' b w.heap.size K F (fun x => (F x).isSome) cnt ∧ w.grownBy w' none ∧ w'.heap.size = w.heap.size + 1 := by
  have hlt := h.lt
  obtain ⟨es, clock, hb, h1, h2, h3, h4⟩ := h
  refine ⟨_, _, run_range_map w t k e b es clock ht hb, ⟨es, clock, clock, #[], clock, ((MapKept.heap_alloc w _).2 b hlt).trans hb, h1, h2, h3, h4, (MapKept.heap_alloc w _).1, h1.1, rfl, ?_, ?_, Nat.le_refl _, Nat.le_refl _⟩, World.grownBy_alloc w _ none, by simp⟩
  · intro x hx
    show (F x.key).isSome = _
    rw [h3 x hx]
    simp
  · intro x hx
    obtain ⟨v, hv⟩ := Option.isSome_iff_exists.1 hx
    obtain ⟨y, hy, e1, _⟩ := h4 _ _ hv
    exact ⟨y, hy, e1⟩

open Classical in
/-- The step. -/
theorem Ranging.next (h : Ranging w b r K F left cnt) (ty : TypeId) :
    ((∀ x, left x = false) ∧ (Instr.next (.pointer (some ⟨r, 0, none⟩)) false ty).run P w = .ok (.tuple #[.bool false]) w) ∨
    ∃ key v w' cnt', K key ∧ left key = true ∧ F key = some v ∧ (Instr.next (.pointer (some ⟨r, 0, none⟩)) false ty).run P w = .ok (.tuple #[.bool true, key, v]) w' ∧
      Ranging w' b r K F (fun x => left x && decide (x ≠ key)) cnt' ∧ cnt' < cnt ∧ w.grownBy w' (some r) ∧ w'.heap.size = w.heap.size ∧ (Instr.entry (.pointer (some ⟨r, 0, none⟩))).run P w' = .ok (.tuple #[key, v]) w' := by
  have hne := h.ne
  obtain ⟨es, clock, since, seen, c0, hb, hst, hk, hF, hF', hr, hold, rfl, hl1, hl2, hsc, hsk⟩ := h
  have hst' := (stamped_iff es clock).1 hst
  rcases run_next_at (P := P) w ty r b since c0 seen es clock hr hb hold hsc with ⟨h0, hrun⟩ | ⟨e, he, w1, hal, hrun⟩
  · refine Or.inl ⟨fun x => ?_, hrun⟩
    cases hx : left x
    · rfl
    · obtain ⟨y, hy, rfl⟩ := hl2 x hx
      rw [hl1 y hy, all_seen es seen h0 y hy] at hx
      cases hx
  · obtain ⟨hem, hes⟩ := mem_left he
    have hr1 : w1.heap[r]? = some (.mapIter (some b) since seen c0) := by rcases hal with rfl | rfl <;> exact hr
    have hb1 : w1.heap[b]? = some (.map es clock) := by rcases hal with rfl | rfl <;> exact hb
    have hset := Go.MapKept.heap_set (o' := .mapIter (some b) since (seen.push e.born) clock) hr1
    have hb' : (Go.ChangeMaps.setBlock w1 r (.mapIter (some b) since (seen.push e.born) clock)).heap[b]? = some (.map es clock) := (hset.2 b (fun e1 => hne e1.symm)).trans hb1
    refine Or.inr ⟨e.key, e.val, _, _, hk e hem, by rw [hl1 e hem, hes]; rfl, hF e hem, hrun,
      ⟨es, clock, since, seen.push e.born, clock, hb', hst, hk, hF, hF', hset.1, hold, rfl, fun x hx => ?_, fun x hx => hl2 x (by simp at hx; exact hx.1), hsk, hsk⟩, left_shrinks es seen e he, ?_, ?_,
      run_entry_at _ r b since seen es clock e hset.1 hb' hem hst'.2.1⟩
    · show (left x.key && decide (x.key ≠ e.key)) = _
      rw [hl1 x hx, contains_push]
      by_cases hxe : x.key = e.key
      · have : x = e := entry_eq_of_key hst'.2.2 hx hem hxe
        subst this
        simp
      · have hbe : ¬ x.born = e.born := fun hbe => hxe (by rw [born_inj hst'.2.1 hx hem hbe])
        simp [hxe, hbe]
    · rcases hal with rfl | rfl <;> exact ⟨rfl, rfl, rfl, by simp [Go.ChangeMaps.setBlock], fun i _ hi => hset.2 i (fun e1 => hi (by rw [e1]))⟩
    · rcases hal with rfl | rfl <;> simp [Go.ChangeMaps.setBlock]
end

section
variable {P : Program} {w w' : World} {a : Act} {o : Oper}
theorem run_op_range {m : Operand} {t : TypeId} {v : Value} (ho : o.op = .range t m) (hrun : (Instr.range t (a.eval m)).run P w = .ok v w') : (execOp a.eval o).run P w = .ok (.value v) w' := by
  simp [execOp, ho, hrun, Result.andThen]
theorem run_op_next {m : Operand} {s : Bool} {v : Value} (ho : o.op = .next m s) (hrun : (Instr.next (a.eval m) s o.type).run P w = .ok v w') : (execOp a.eval o).run P w = .ok (.value v) w' := by
  simp [execOp, ho, hrun, Result.andThen]
theorem run_op_entry {m : Operand} {v : Value} (ho : o.op = .entry m) (hrun : (Instr.entry (a.eval m)).run P w = .ok v w') : (execOp a.eval o).run P w = .ok (.value v) w' := by
  simp [execOp, ho, hrun, Result.andThen]
end

end Go.Proofs.Ytnndkameadlkdaa
