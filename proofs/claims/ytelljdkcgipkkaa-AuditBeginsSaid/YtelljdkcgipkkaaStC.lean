/- The array of a slot, loaded whole. -/
import Derived.Test.YtelljdkcgipkkaaStB
import Derived.Deep.MidRow
import Derived.Deep.WholeRow
namespace Go.Proofs.Ytelljdkcgipkkaa
open Go.RowKit

theorem size43 : (Try.prog.info? 43).map (·.size) = some 272 := by kernel_rfl

theorem load43 (w : World) (b o : Nat) (cs : List Value) (hc : ∀ j v, cs[j]? = some v → w.cell? ⟨b, o + j, none⟩ = some v) (hl : cs.length = 272) :
    (Instr.loadAt 43 (.pointer (some ⟨b, o, none⟩))).run Try.prog w = .ok (.agg cs.toArray) w := by
  simp only [Instr.loadAt, Instr.sureAddr, Sem.run_bind, Sem.run_pure, Result.andThen]
  exact run_loadVar_mid w b o 43 cs _ hc Try.underlying43 rfl (by rw [hl]; exact size43)

theorem own_cells {w : World} {base n : Nat} {e : TypeId} {A : Option Addr} {c : Nat} {xs : List Value} (h : w.ownsRow base e 1 (.slice A n c) n xs) (hn : 0 < n) :
    ∃ g, A = some ⟨g, 0, none⟩ ∧ base ≤ g ∧ n ≤ c ∧ ∀ j v, xs[j]? = some v → w.cell? ⟨g, j, none⟩ = some v := by
  obtain ⟨hl, ⟨hv, h0⟩ | ⟨g, cap, cur, hv, hb, hg, hnc, _, _, ht⟩⟩ := h
  · omega
  · cases hv
    refine ⟨g, rfl, hb, hnc, fun j v hj => ?_⟩
    rw [cell_of_row _ _ j _ _ _ hg]
    rw [← ht, List.getElem?_take] at hj
    split at hj
    · simpa using hj
    · cases hj

theorem pad272_len (l : List Int) : (pad272 l).length = 272 := by simp [pad272, padTo]; omega
theorem pad272_byt {l : List Int} (h : Byt l) : Byt (pad272 l) := by
  intro x hx
  have hx := List.mem_of_mem_take hx
  rcases List.mem_append.1 hx with hx | hx
  · exact h x hx
  · rw [List.eq_of_mem_replicate hx]; omega
theorem pad272_cell {l : List Int} {j : Nat} {v : Value} (h : (bys (pad272 l))[j]? = some v) : (bys (padTo l 272))[j]? = some v := by
  rw [pad272, bys, List.map_take, List.getElem?_take] at h
  split at h
  · exact h
  · cases h
def zer : List Int := List.replicate 272 0
theorem run_alloc43 (w : World) : (Instr.alloc 43 true (.tuple #[])).run Try.prog w = .ok (.pointer (some ⟨w.heap.size, 0, none⟩)) (w.alloc (.cells (bys zer).toArray 43)) := by kernel_rfl
theorem bys_all (l : List Int) : (bys l).toArray.all (·.oneCell') = true := all_oneCell_toArray (bys_one l)
theorem store43 (w : World) (l m : List Int) (hl : l.length = 272) (hm : m.length = 272) :
    (Instr.storeAt 43 (.pointer (some ⟨w.heap.size, 0, none⟩)) (.agg (bys m).toArray)).run Try.prog (w.alloc (.cells (bys l).toArray 43)) = .ok () (w.alloc (.cells (bys m).toArray 43)) :=
  run_storeAt_new w 43 _ _ (by rw [size43]; simp [bys_length, hm]) (by simp [bys_length, hl, hm]) (bys_all m)
theorem run_op_arrayAt {P : Program} {w w' : World} {a : Act} {o : Oper} {x : Operand} {t : TypeId} {s : TypeId} {v : Value} (ho : o.op = .sliceToArrayPointer t x) (hrun : (Instr.arrayAt t (a.eval x)).run P w = .ok v w') : (execOp a.eval o).run P w = .ok (.value v) w' := by
  simp [execOp, ho, hrun, Result.andThen]

end Go.Proofs.Ytelljdkcgipkkaa
