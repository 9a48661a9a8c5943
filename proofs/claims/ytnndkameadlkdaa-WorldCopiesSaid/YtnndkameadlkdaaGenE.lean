/- append of made zeros onto a row of the call's own; copy into a row that is known whole; over any program. -/
import Derived.Test.YtnndkameadlkdaaGenD
import Derived.Lib.AppendZerosOnto
namespace Go.Proofs.Ytnndkameadlkdaa
open Go.RowKit

theorem zeroCells_one (z : Value) (hz : z.cells = #[z]) (k : Nat) : Builtin.zeroCells z.cells k = (List.replicate k z).toArray := by
  unfold Builtin.zeroCells
  rw [hz]
  apply Array.ext
  · simp
  · intro i h1 h2
    simp [Nat.mod_one]

section
variable {P : Program} (w : World)
theorem run_append_zeros (base : Nat) (t tn ty e : TypeId) (i : TypeInfo) (z : Value) (bytes : Nat) (kq kn : IntKind) (ht : P.underlying t = some (.slice e)) (htn : P.underlying tn = some (.int kn)) (hi : P.info? e = some i) (hz : i.zero = some z)
    (hsize : i.size = 1) (hby : i.bytes = bytes) (hzs : z.cells = #[z]) (hz1 : z.oneCell' = true)
    (v : Value) (n : Nat) (xs : List Value) (hown : w.ownsRow base e 1 v n xs) (k : Nat)
    (h63 : n + k ≤ maxLen) (hbytes : (n + k) * bytes ≤ 140737488355328) (hbase : base ≤ w.heap.size) :
    ∃ v' w', (Builtin.append_ #[t, tn] ty #[v, .int kq (k : Int)]).run P w = .ok v' w' ∧ w'.ownsRow base e 1 v' (n + k) (xs ++ List.replicate k z) ∧ w.grownBy w' v.ownBlock ∧
      (v'.ownBlock = v.ownBlock ∨ v'.ownBlock = some w.heap.size) := by
  have hsmall : n + k ≤ 9223372036854775807 := by simp only [maxLen] at h63; omega
  have hw : IntKind.i64.wrap (k : Int) = k := by rw [IntKind.wrap_i64]; omega
  have hneg : ¬ ((k : Int) < 0) := by omega
  have hkb : k * i.bytes ≤ 281474976710656 := by
    subst hby
    have : k * i.bytes ≤ (n + k) * i.bytes := Nat.mul_le_mul_right _ (by omega)
    omega
  have h48i : ¬ (281474976710656 < (k : Int) * (i.bytes : Int)) := by
    rw [← Int.natCast_mul]
    omega
  obtain ⟨base', cap, hv, hnc, hcase⟩ : ∃ A cap, v = .slice A n cap ∧ n ≤ cap ∧ ((A = none ∧ n = 0 ∧ cap = 0) ∨ ∃ g cur, A = some ⟨g, 0, none⟩ ∧ base ≤ g ∧ w.heap[g]? = some (.cells cur e (0, 0)) ∧ cap ≤ maxLen ∧ cur.size = cap ∧ cur.toList.take n = xs) := by
    rcases hown.2 with ⟨rfl, rfl⟩ | ⟨g, cap, cur, rfl, hb, hg, hnc, hm, hs, ht'⟩
    · exact ⟨none, 0, rfl, Nat.le_refl _, Or.inl ⟨rfl, rfl, rfl⟩⟩
    · exact ⟨_, cap, rfl, hnc, Or.inr ⟨g, cur, rfl, hb, hg, hm, by simpa using hs, by simpa using ht'⟩⟩
  subst hv
  have hxl : xs.length = n := by simpa using hown.1
  have hkz : k * 1 = k := Nat.mul_one k
  by_cases hroom : n + k ≤ cap
  · rcases hcase with ⟨rfl, rfl, rfl⟩ | ⟨g, cur, rfl, hbg, hg, hcm, hcs, htk⟩
    · have hk0 : k = 0 := by omega
      subst hk0
      refine ⟨.slice none 0 0, w, ?_, by simpa using hown, World.grownBy.refl w _, Or.inl rfl⟩
      simp [Builtin.append_, run_underlying ht, run_underlying htn, sizeOf, typeInfo, hi, asInt, asIntOf, IntKind.wrap_i64]
    · have hfit : n + (List.replicate k z).length ≤ cur.size := by rw [List.length_replicate, hcs]; exact hroom
      have hst := run_storeCells_at P g n e (List.replicate k z) 0 cur w hg (by simpa using hfit) (fun u hu => by rw [List.eq_of_mem_replicate hu]; exact hz1)
      simp only [Nat.add_zero] at hst
      have hrun : (Builtin.append_ #[t, tn] ty #[.slice (some ⟨g, 0, none⟩) n cap, .int kq (k : Int)]).run P w = .ok (.slice (some ⟨g, 0, none⟩) (n + k) cap) (w.setRow g (cur.toList.take n ++ List.replicate k z ++ cur.toList.drop (n + (List.replicate k z).length)).toArray) := by
        by_cases hk0 : k = 0
        · subst hk0
          simp only [List.replicate_zero, List.length_nil, Nat.add_zero] at hst ⊢
          simp [Builtin.append_, run_underlying ht, run_underlying htn, sizeOf, typeInfo, hi, hsize, asInt, asIntOf, IntKind.wrap_i64, hnc, Addr.add_lit, hst]
        · simp [Builtin.append_, run_underlying ht, run_underlying htn, sizeOf, typeInfo, zeroValue, hi, hz, hsize, asInt, asIntOf, hw, hneg, h48i, hroom, hk0, zeroCells_one z hzs, Addr.add_lit, hst]
      refine ⟨_, _, hrun, ⟨by simp [hxl], .inr ⟨g, cap, _, rfl, hbg, setRow_heap w g cur _ e _ hg, hroom, hcm, ?_, ?_⟩⟩, ⟨rfl, rfl, rfl, by simp, fun j _ hj => setRow_other w g j _ (fun e1 => hj (by simp [Value.ownBlock, e1]))⟩, Or.inl rfl⟩
      · simp only [List.size_toArray, List.length_append, List.length_take, List.length_drop, Array.length_toList, List.length_replicate]
        omega
      · rw [htk]
        have : (n + k) * 1 = (xs ++ List.replicate k z).length := by simp [hxl]
        rw [this]
        exact List.take_left
  · have hk0 : 0 < k := by omega
    have hsrc := Src.of_own hown
    have hold : (Builtin.firstCells i.size n (.slice base' n cap)).run P w.drew = .ok xs.toArray w.drew := by
      rcases hcase with ⟨rfl, rfl, rfl⟩ | ⟨g, cur, rfl, hbg, hg, hcm, hcs, htk⟩
      · have : xs = [] := List.eq_nil_of_length_eq_zero hxl
        subst this
        simp [Builtin.firstCells]
      · exact run_firstCells_some (P := P) w.drew i.size n _ n cap xs (by rw [hxl, hsize]; omega) (fun j u hu => hown.cells (g := g) rfl j u hu)
    have hfit : Builtin.nextslicecap (n + k) cap * i.bytes ≤ 281474976710656 := by
      exact growslice_fits (by omega) (by rw [hby]; exact hbytes)
    have hr := Lib.run_append_grow_zeros (P := P) w t tn ty e i z kq kn ht htn hi hz base' n cap xs hold k hk0 (by omega) (by omega) (by omega) hkb hfit
    refine ⟨_, _, hr, ⟨by simp [hxl], .inr ⟨w.heap.size, _, _, rfl, hbase, heap_alloc_new w.drew _, grownCap_ge w (n + k) cap e, grownCap_le_maxLen w (n + k) cap e h63, ?_, ?_⟩⟩, ⟨rfl, rfl, rfl, by simp, fun j hj _ => Below.heap_alloc w.drew _ j hj⟩, Or.inr rfl⟩
    · have hge := grownCap_ge w (n + k) cap e
      simp only [zeroCells_one z hzs, Array.size_append, List.size_toArray, List.length_replicate, hxl]
      omega
    · simp only [zeroCells_one z hzs, Array.toList_append, List.append_assoc]
      rw [← List.append_assoc]
      have : (n + k) * 1 = (xs ++ List.replicate k z).length := by simp [hxl]
      rw [this]
      exact List.take_left
/-- copy(d, x), d a slice from the head of a row that is known whole, x a source of m cells: all of them, where there is room. -/
theorem run_copy_head (t tx ty e : TypeId) (i : TypeInfo) (ht : P.underlying t = some (.slice e)) (hi : P.info? e = some i) (hsize : i.size = 1)
    (g L c : Nat) (ce : TypeId) (cur : Array Value) (hg : w.heap[g]? = some (.cells cur ce (0, 0))) (hL : L ≤ cur.size)
    (x : Value) (m : Nat) (news : List Value) (hr : Src w 1 x m news) (h1 : ∀ u ∈ news, u.oneCell' = true) (hm : m ≤ L) :
    (Builtin.copy_ #[t, tx] ty #[.slice (some ⟨g, 0, none⟩) L c, x]).run P w = .ok (.int .i64 (m : Int)) (w.setRow g (news ++ cur.toList.drop m).toArray) := by
  obtain ⟨A, c', rfl, hmc, hl, hc⟩ := hr
  have hln : news.length = m := by simpa using hl
  have hmin : min m L = m := Nat.min_eq_left hm
  have hst := run_storeCells_at P g 0 ce news 0 cur w hg (by simp; omega) h1
  simp only [Nat.add_zero, Nat.zero_add, List.take_zero, List.nil_append] at hst
  rcases A with _ | ad
  · have hn : news = [] := by
      cases news with
      | nil => rfl
      | cons u r => obtain ⟨ad, h, _⟩ := hc 0 u rfl; cases h
    subst hn
    have hm0 : m = 0 := by simpa using hln.symm
    subst hm0
    simp only [List.length_nil] at hst
    simp [Builtin.copy_, run_underlying ht, sizeOf, typeInfo, hi, Builtin.lenOf, Builtin.firstCells, goInt, hst, Result.andThen]
  · have hf := run_firstCells_some (P := P) w i.size m ad m c' news (by rw [hln, hsize]; omega) (fun j u hu => by obtain ⟨ad', h, hx⟩ := hc j u hu; cases h; exact hx)
    have hf' : (Builtin.firstCells 1 m (.slice (some ad) m c')).run P w = .ok news.toArray w := by rw [← hsize]; exact hf
    rw [hln] at hst
    simp [Builtin.copy_, run_underlying ht, sizeOf, typeInfo, hi, Builtin.lenOf, hmin, hsize, hf', goInt, hst, Result.andThen]
end
end Go.Proofs.Ytnndkameadlkdaa
