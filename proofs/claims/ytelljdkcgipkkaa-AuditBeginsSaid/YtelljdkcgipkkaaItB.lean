/- The walk of audit.Minus: the first loop. -/
import Derived.Test.YtelljdkcgipkkaaItA
namespace Go.Proofs.Ytelljdkcgipkkaa
open Go.RowKit

section
variable {P : Program} {o : Oper} {a : Act} {w w' : World}
theorem run_op_mapEntry {m x : Operand} {t : TypeId} {v : Value} (ho : o.op = .mapEntry t m x) (hrun : (Instr.mapEntry t (a.eval m) (a.eval x)).run P w = .ok v w') : (execOp a.eval o).run P w = .ok (.value v) w' := by
  unfold execOp
  simp only [ho, Sem.run_bind, Sem.run_pure, Result.andThen_ok, hrun]
theorem run_op_entryStore {m s x : Operand} {t : TypeId} (ho : o.op = .entryStore t m s x) (hrun : (Instr.entryStore t (a.eval m) (a.eval s) (a.eval x)).run P w = .ok () w') : (execOp a.eval o).run P w = .ok .skip w' := by
  unfold execOp
  simp only [ho, Sem.run_bind, Sem.run_pure, Result.andThen_ok, hrun]
end

theorem zero3 (w : World) : (zeroValue 3).run Try.prog w = .ok (.int .i64 0) w := by kernel_rfl

theorem cell?_putObj {w : World} {b : Nat} {es : Array MapEntry} {cl : Nat} (hb : w.heap[b]? = some (.map es cl)) {o : Obj} (ho : ∃ es' cl', o = .map es' cl') (a : Addr) : (putObj w b o).cell? a = w.cell? a := by
  obtain ⟨es', cl', rfl⟩ := ho
  by_cases h : a.block = b
  · subst h
    have h2 : (putObj w a.block (.map es' cl')).heap[a.block]? = some (.map es' cl') := by rw [putObj_heap, if_pos ⟨rfl, heap_lt hb⟩]
    unfold World.cell?
    rw [h2, hb]
  · have h2 : (putObj w b (.map es' cl')).heap[a.block]? = w.heap[a.block]? := by rw [putObj_heap, if_neg (fun e => h e.1)]
    exact World.cell?_of_block h2

/-- What a counting map says of how many there are. -/
def Counts (w : World) (m : Nat) (c : IKey → Nat) : Prop := ∃ F, IsMap w m ItemKey F ∧ ∀ (a : Int) (l : List Int), Byt l → (F (ik a l)).getD (.int .i64 0) = .int .i64 (c (a, l))

theorem Counts.look {w : World} {m : Nat} {c : IKey → Nat} (h : Counts w m c) (a : Int) (l : List Int) (hl : Byt l) : (Instr.lookup 34 (.map (some m)) (ik a l) false).run Try.prog w = .ok (.int .i64 (c (a, l))) w := by
  obtain ⟨F, hF, hc⟩ := h
  have := hF.look keyRun_item Try.underlying34 (zero3 w) (x := ik a l) ⟨a, l, hl, rfl⟩ false
  rw [hc a l hl] at this
  simpa using this
theorem Counts.evo {w w' : World} {m : Nat} {c : IKey → Nat} (h : Counts w m c) (he : Evo (fun _ => False) w w') : Counts w' m c := by
  obtain ⟨F, hF, hc⟩ := h
  exact ⟨F, hF.same (he.block m hF.lt (fun hf => hf)), hc⟩

/-- An entry taken, and stored into: the count is another one. -/
theorem Counts.entry {w : World} {m : Nat} {c : IKey → Nat} (h : Counts w m c) (a : Int) (l : List Int) (hl : Byt l) :
    ∃ (st : Nat) (w1 : World), (Instr.mapEntry 34 (.map (some m)) (ik a l)).run Try.prog w = .ok (.tuple #[.int .i64 (c (a, l)), goInt st]) w1 ∧ Counts w1 m c ∧ (∀ x, w1.cell? x = w.cell? x) ∧ Evo (fun k => k = m) w w1 ∧
      (∀ (k : Nat) (cs : Array Value) (e : TypeId) (f : Nat × Nat), w.heap[k]? = some (Obj.cells cs e f) → w1.heap[k]? = some (Obj.cells cs e f)) ∧
      ∀ n : Nat, ∃ w2, (Instr.entryStore 34 (.map (some m)) (goInt st) (.int .i64 n)).run Try.prog w1 = .ok () w2 ∧ Counts w2 m (fun k => if k = (a, l) then n else c k) ∧ (∀ x, w2.cell? x = w.cell? x) ∧ Evo (fun k => k = m) w w2 ∧
        (∀ (k : Nat) (cs : Array Value) (e : TypeId) (f : Nat × Nat), w.heap[k]? = some (Obj.cells cs e f) → w2.heap[k]? = some (Obj.cells cs e f)) := by
  obtain ⟨F, hF, hc⟩ := h
  obtain ⟨st, o1, hrun, hI, ho, hst⟩ := map_entry hF keyRun_item Try.underlying34 (fun u => zero3 u) (x := ik a l) ⟨a, l, hl, rfl⟩
  obtain ⟨es, cl, hes, _⟩ := id hF
  have hev : ∀ o, Evo (fun k => k = m) w (putObj w m o) := fun o => (Evo.refl (fun k => k = m) w).putObj (b := m) (.inl rfl) o
  have hcs : ∀ o, ∀ (k : Nat) (cs : Array Value) (e : TypeId) (f : Nat × Nat), w.heap[k]? = some (Obj.cells cs e f) → (putObj w m o).heap[k]? = some (Obj.cells cs e f) := fun o k cs e f hk => by
    rw [putObj_heap, if_neg]
    · exact hk
    · rintro ⟨rfl, _⟩
      rw [hes] at hk
      cases hk
  have hup : ∀ (v : Value) (n : Nat), v = .int .i64 n → ∀ (a' : Int) (l' : List Int), Byt l' → ((upd F (ik a l) v) (ik a' l')).getD (.int .i64 0) = .int .i64 ((if (a', l') = (a, l) then n else c (a', l') : Nat)) := by
    rintro v n rfl a' l' hl'
    by_cases hk : (a', l') = (a, l)
    · cases hk
      rw [upd_same, if_pos rfl]
      rfl
    · rw [upd_other, if_neg hk]
      · exact hc a' l' hl'
      · intro e
        obtain ⟨e1, e2⟩ := ik_inj hl' hl e
        exact hk (by rw [e1, e2])
  rw [hc a l hl] at hrun hI
  refine ⟨st, putObj w m o1, hrun, ⟨_, hI, fun a' l' hl' => ?_⟩, fun x => cell?_putObj hes ho x, hev o1, hcs o1, fun n => ?_⟩
  · rw [hup _ _ rfl a' l' hl']
    congr 2
    split
    · rename_i h; rw [h]
    · rfl
  · obtain ⟨o2, h1, h2, h3⟩ := hst (.int .i64 n)
    exact ⟨putObj w m o2, h1, ⟨_, h2, hup _ _ rfl⟩, fun x => cell?_putObj hes h3 x, hev o2, hcs o2⟩

end Go.Proofs.Ytelljdkcgipkkaa
