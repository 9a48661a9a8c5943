/- Words on maps, byte slices and the growth of a heap, over any program. -/
import Derived.WalkKit
import Derived.WalkSpells
import Derived.WalkLawsBesides
import Derived.Lib.Hide
import Derived.MapKept
import Derived.Laws.StructEq
import Derived.Maps.AppendAt
namespace Go.Proofs.Ytnndkameadlkdaa
open Go.RowKit
open Go.MapKept (Stamped stamped_iff stamped_empty stamped_push stamped_modify stamped_erase)

/-! ### maps -/

/-- What the look-ups in a map ask of its keys. -/
structure KeyRun (P : Program) (k : TypeId) (K : Value → Prop) : Prop where
  check : ∀ (w : World) (em : Bool) {v : Value}, K v → (Instr.checkKey em 10000 k v).run P w = .ok () w
  find : ∀ (w : World) {x : Value}, K x → ∀ es : List MapEntry, (∀ e ∈ es, K e.key) →
    ((Instr.findKey k x es).run P w = .ok none w ∧ ∀ e ∈ es, e.key ≠ x) ∨ ∃ j e, (Instr.findKey k x es).run P w = .ok (some (j, e.val)) w ∧ es[j]? = some e ∧ e.key = x
  stays : ∀ (w : World) {v : Value}, K v → (Instr.keyThatStays v v).run P w = .ok v w

def IntKey (q : IntKind) (v : Value) : Prop := ∃ n : Int, v = .int q n

theorem intKey_isKey {q : IntKind} {v : Value} (h : IntKey q v) : MapKept.IsKey (.int q) v := by
  obtain ⟨n, rfl⟩ := h; exact rfl

theorem keyRun_int {P : Program} {k : TypeId} {q : IntKind} (hk : P.underlying k = some (.int q)) : KeyRun P k (IntKey q) where
  check w em v hv := MapKept.run_checkKey hk (intKey_isKey hv) em 9999
  find w x hx es hes := by
    rcases MapKept.findNow_spec (intKey_isKey hx) es 0 (fun e he => intKey_isKey (hes e he)) with ⟨h1, h2⟩ | ⟨j, e0, h1, h2, h3⟩
    · exact Or.inl ⟨MapKept.run_findKey hk h1, h2⟩
    · exact Or.inr ⟨j, e0, by simpa using MapKept.run_findKey hk h1, h2, h3⟩
  stays w v hv := MapKept.run_keyThatStays (intKey_isKey hv)

/-- What holds of a map's block: it reads as the function F. -/
def IsMap (w : World) (b : Nat) (K : Value → Prop) (F : Value → Option Value) : Prop :=
  ∃ es clock, w.heap[b]? = some (.map es clock) ∧ Stamped es clock ∧ (∀ e ∈ es.toList, K e.key) ∧ (∀ e ∈ es.toList, F e.key = some e.val) ∧
    ∀ k v, F k = some v → ∃ e ∈ es.toList, e.key = k ∧ e.val = v

open Classical in
noncomputable def upd (F : Value → Option Value) (k : Value) (v : Value) : Value → Option Value := fun x => if x = k then some v else F x
open Classical in
noncomputable def del (F : Value → Option Value) (k : Value) : Value → Option Value := fun x => if x = k then none else F x

theorem upd_same (F : Value → Option Value) (k v : Value) : upd F k v k = some v := by simp [upd]
theorem upd_other (F : Value → Option Value) {k x : Value} (v : Value) (h : x ≠ k) : upd F k v x = F x := by simp [upd, h]
theorem del_same (F : Value → Option Value) (k : Value) : del F k k = none := by simp [del]
theorem del_other (F : Value → Option Value) {k x : Value} (h : x ≠ k) : del F k x = F x := by simp [del, h]

/-- The world with another object in a block that is no row of cells. -/
def putObj (w : World) (b : Nat) (o : Obj) : World := { w with heap := w.heap.setIfInBounds b o }

theorem putObj_heap (w : World) (b : Nat) (o : Obj) (k : Nat) : (putObj w b o).heap[k]? = if k = b ∧ b < w.heap.size then some o else w.heap[k]? := by
  simp only [putObj, Array.getElem?_setIfInBounds]
  by_cases h : b = k
  · subst h
    by_cases hb : b < w.heap.size
    · simp [hb]
    · simp [hb]
  · have : ¬ k = b := fun e => h e.symm
    simp [h, this]
theorem putObj_size (w : World) (b : Nat) (o : Obj) : (putObj w b o).heap.size = w.heap.size := by simp [putObj]

section
variable {P : Program} {k e t : TypeId} {K : Value → Prop} {w : World} {b : Nat} {F : Value → Option Value}

theorem IsMap.lt (h : IsMap w b K F) : b < w.heap.size := by
  obtain ⟨es, c, hb, _⟩ := h
  exact (Array.getElem?_eq_some_iff.1 hb).1

theorem IsMap.same {w' : World} (h : IsMap w b K F) (hs : w'.heap[b]? = w.heap[b]?) : IsMap w' b K F := by
  obtain ⟨es, c, hb, r⟩ := h
  exact ⟨es, c, hs.trans hb, r⟩

theorem IsMap.empty (w : World) (K : Value → Prop) : IsMap (w.alloc (.map #[] 0)) w.heap.size K (fun _ => none) :=
  ⟨#[], 0, (MapKept.heap_alloc w _).1, stamped_empty 0, by simp, by simp, by simp⟩

theorem IsMap.key (h : IsMap w b K F) {x v : Value} (hx : F x = some v) : K x := by
  obtain ⟨es, c, _, _, hk, _, hF⟩ := h
  obtain ⟨y, hy, rfl, _⟩ := hF _ _ hx
  exact hk y hy

theorem IsMap.look (h : IsMap w b K F) (hK : KeyRun P k K) (ht : P.underlying t = some (.map k e)) {z : Value} (hz : (zeroValue e).run P w = .ok z w) {x : Value} (hx : K x) (c : Bool) :
    (Instr.lookup t (.map (some b)) x c).run P w = .ok (if c then .tuple #[(F x).getD z, .bool (F x).isSome] else (F x).getD z) w := by
  obtain ⟨es, clock, hb, hs, hk, hF, hF'⟩ := h
  rcases hK.find w hx es.toList hk with ⟨h1, h2⟩ | ⟨j, e0, h1, h2, h3⟩
  · have hn : F x = none := by
      cases hc : F x with
      | none => rfl
      | some v => obtain ⟨y, hy, hyk, _⟩ := hF' _ _ hc; exact absurd hyk (h2 y hy)
    simp [Instr.lookup, run_underlying ht, MapKept.run_getObj_map hb, hK.check w _ hx, h1, hz, Result.andThen, hn]
  · have hs' : F x = some e0.val := by rw [← h3]; exact hF e0 (List.mem_of_getElem? h2)
    simp [Instr.lookup, run_underlying ht, MapKept.run_getObj_map hb, hK.check w _ hx, h1, Result.andThen, hs']

theorem IsMap.store (h : IsMap w b K F) (hK : KeyRun P k K) (ht : P.underlying t = some (.map k e)) {x : Value} (hx : K x) (v : Value) :
    ∃ o, (Instr.mapUpdate t (.map (some b)) x v).run P w = .ok () (putObj w b o) ∧ IsMap (putObj w b o) b K (upd F x v) ∧ (∃ es c, o = .map es c) := by
  have hlt := h.lt
  obtain ⟨es, clock, hb, hs, hk, hF, hF'⟩ := h
  rcases hK.find w hx es.toList hk with ⟨h1, h2⟩ | ⟨j, e0, h1, h2, h3⟩
  · refine ⟨.map (es.push { key := x, val := v, born := clock }) (clock + 1), ?_, ⟨_, _, by rw [putObj_heap, if_pos ⟨rfl, hlt⟩], stamped_push hs h2, ?_, ?_, ?_⟩, _, _, rfl⟩
    · simp [Instr.mapUpdate, run_underlying ht, MapKept.run_getObj_map hb, hK.check w false hx, h1, MapKept.run_setObj_map _ hb, Result.andThen, putObj]
    · intro y hy
      simp only [Array.toList_push, List.mem_append, List.mem_singleton] at hy
      rcases hy with hy | rfl
      · exact hk y hy
      · exact hx
    · intro y hy
      simp only [Array.toList_push, List.mem_append, List.mem_singleton] at hy
      rcases hy with hy | rfl
      · rw [upd_other _ _ (h2 y hy)]; exact hF y hy
      · exact upd_same _ _ _
    · intro k' v' hkv
      by_cases e1 : k' = x
      · subst e1
        rw [upd_same] at hkv
        cases hkv
        exact ⟨⟨_, _, clock⟩, by simp, rfl, rfl⟩
      · rw [upd_other _ _ e1] at hkv
        obtain ⟨y, hy, h4, h5⟩ := hF' _ _ hkv
        exact ⟨y, by simp only [Array.toList_push, List.mem_append]; exact Or.inl hy, h4, h5⟩
  · have hj : es[j]? = some e0 := by simpa using h2
    have hne : ∀ i y, es.toList[i]? = some y → i ≠ j → y.key ≠ x := by
      intro i y hy hij hyx
      obtain ⟨_, _, hp⟩ := hs
      have hil : i < (es.toList.map (·.key)).length := by have := (List.getElem?_eq_some_iff.1 hy).1; simpa using this
      exact hij ((List.getElem?_inj hil hp).1 (by rw [List.getElem?_map, List.getElem?_map, h2, hy]; simp [hyx, h3]))
    have hkeyf : ∀ e', es[j]? = some e' → ({ e' with key := x, val := v } : MapEntry).key = e'.key := fun e' he' => by rw [hj] at he'; cases he'; exact h3.symm
    have hget : ∀ i y, (es.modify j (fun e' => { e' with key := x, val := v })).toList[i]? = some y → (i = j ∧ y.key = x ∧ y.val = v) ∨ (i ≠ j ∧ es.toList[i]? = some y) := by
      intro i y hy
      simp only [Array.getElem?_toList, Array.getElem?_modify] at hy
      by_cases hij : j = i
      · subst hij
        rw [hj] at hy
        simp at hy
        subst hy
        exact Or.inl ⟨rfl, rfl, rfl⟩
      · rw [if_neg hij] at hy
        exact Or.inr ⟨fun e1 => hij e1.symm, by simpa using hy⟩
    refine ⟨.map (es.modify j (fun e' => { e' with key := x, val := v })) clock, ?_, ⟨es.modify j (fun e' => { e' with key := x, val := v }), clock, by rw [putObj_heap, if_pos ⟨rfl, hlt⟩], stamped_modify hs _ _ (fun _ _ => rfl) (fun e' _ he' => hkeyf e' he'), ?_, ?_, ?_⟩, _, _, rfl⟩
    · simp [Instr.mapUpdate, run_underlying ht, MapKept.run_getObj_map hb, hK.check w false hx, h1, hj, h3, hK.stays w hx, MapKept.run_setObj_map _ hb, Result.andThen, putObj]
    · intro y hy
      obtain ⟨i, hi⟩ := List.mem_iff_getElem?.1 hy
      rcases hget i y hi with ⟨_, h4, _⟩ | ⟨_, h4⟩
      · rw [h4]; exact hx
      · exact hk y (List.mem_of_getElem? h4)
    · intro y hy
      obtain ⟨i, hi⟩ := List.mem_iff_getElem?.1 hy
      rcases hget i y hi with ⟨_, h4, h5⟩ | ⟨h6, h4⟩
      · rw [h4, h5]; exact upd_same _ _ _
      · rw [upd_other _ _ (hne i y h4 h6)]; exact hF y (List.mem_of_getElem? h4)
    · intro k' v' hkv
      by_cases e1 : k' = x
      · subst e1
        rw [upd_same] at hkv
        cases hkv
        refine ⟨{ e0 with key := k', val := v }, ?_, rfl, rfl⟩
        refine List.mem_iff_getElem?.2 ⟨j, ?_⟩
        simp [Array.getElem?_modify, hj]
      · rw [upd_other _ _ e1] at hkv
        obtain ⟨y, hy, h4, h5⟩ := hF' _ _ hkv
        obtain ⟨i, hi⟩ := List.mem_iff_getElem?.1 hy
        refine ⟨y, List.mem_iff_getElem?.2 ⟨i, ?_⟩, h4, h5⟩
        have hij : j ≠ i := by
          rintro rfl
          rw [h2] at hi
          cases hi
          exact e1 (h4.symm.trans h3)
        simp only [Array.getElem?_toList, Array.getElem?_modify, if_neg hij]
        simpa using hi

theorem IsMap.erase (h : IsMap w b K F) (hK : KeyRun P k K) (ht : P.underlying t = some (.map k e)) {x : Value} (hx : K x) (ty : TypeId) :
    ∃ o, (Builtin.delete_ #[t, k] ty #[.map (some b), x]).run P w = .ok (.tuple #[]) (putObj w b o) ∧ IsMap (putObj w b o) b K (del F x) ∧ (∃ es c, o = .map es c) := by
  have hlt := h.lt
  obtain ⟨es, clock, hb, hs, hk, hF, hF'⟩ := h
  rcases hK.find w hx es.toList hk with ⟨h1, h2⟩ | ⟨j, e0, h1, h2, h3⟩
  · refine ⟨.map es clock, ?_, ⟨_, _, by rw [putObj_heap, if_pos ⟨rfl, hlt⟩], hs, hk, ?_, ?_⟩, _, _, rfl⟩
    · simp [Builtin.delete_, run_underlying ht, MapKept.run_getObj_map hb, hK.check w _ hx, h1, MapKept.run_setObj_map _ hb, Result.andThen, putObj]
    · intro y hy
      rw [del_other _ (h2 y hy)]; exact hF y hy
    · intro k' v' hkv
      by_cases e1 : k' = x
      · subst e1; rw [del_same] at hkv; cases hkv
      · rw [del_other _ e1] at hkv; exact hF' _ _ hkv
  · have hjl : j < es.toList.length := (List.getElem?_eq_some_iff.1 h2).1
    have hjs : j < es.size := by simpa using hjl
    have hsub : (es.eraseIdxIfInBounds j).toList = es.toList.eraseIdx j := by
      unfold Array.eraseIdxIfInBounds
      rw [dif_pos hjs]
      simp
    have hp := hs.2.2
    have hne : ∀ y ∈ es.toList.eraseIdx j, y.key ≠ x := by
      intro y hy hyx
      obtain ⟨i, hij, hi⟩ := List.mem_eraseIdx_iff_getElem?.1 hy
      have hil : i < (es.toList.map (·.key)).length := by have := (List.getElem?_eq_some_iff.1 hi).1; simpa using this
      exact hij ((List.getElem?_inj hil hp).1 (by rw [List.getElem?_map, List.getElem?_map, h2, hi]; simp [hyx, h3]))
    refine ⟨.map (es.eraseIdxIfInBounds j) clock, ?_, ⟨_, _, by rw [putObj_heap, if_pos ⟨rfl, hlt⟩], stamped_erase hs j, ?_, ?_, ?_⟩, _, _, rfl⟩
    · simp [Builtin.delete_, run_underlying ht, MapKept.run_getObj_map hb, hK.check w _ hx, h1, MapKept.run_setObj_map _ hb, Result.andThen, putObj]
    · intro y hy
      rw [hsub] at hy
      exact hk y ((List.eraseIdx_sublist _ _).subset hy)
    · intro y hy
      rw [hsub] at hy
      rw [del_other _ (hne y hy)]
      exact hF y ((List.eraseIdx_sublist _ _).subset hy)
    · intro k' v' hkv
      by_cases e1 : k' = x
      · subst e1; rw [del_same] at hkv; cases hkv
      · rw [del_other _ e1] at hkv
        obtain ⟨y, hy, h4, h5⟩ := hF' _ _ hkv
        refine ⟨y, ?_, h4, h5⟩
        rw [hsub]
        obtain ⟨i, hi⟩ := List.mem_iff_getElem?.1 hy
        refine List.mem_eraseIdx_iff_getElem?.2 ⟨i, ?_, hi⟩
        rintro rfl
        rw [h2] at hi
        cases hi
        exact e1 (h4.symm.trans h3)
end

end Go.Proofs.Ytnndkameadlkdaa
