/- An entry of a map taken, and stored into: 'm[k]++'; over any program. -/
import Derived.Test.YtelljdkcgipkkaaGenE
import Derived.WideKeyEntry
namespace Go.Proofs.Ytelljdkcgipkkaa
open Go.RowKit Go.MapKept

section
variable {P : Program} {w : World} {t k e : TypeId} {b : Nat} {K : Value → Prop} {F : Value → Option Value}

theorem map_entry (h : IsMap w b K F) (hK : KeyRun P k K) (ht : P.underlying t = some (.map k e)) {z : Value} (hz : ∀ u : World, (zeroValue e).run P u = .ok z u) {x : Value} (hx : K x) :
    ∃ (st : Nat) (o1 : Obj), (Instr.mapEntry t (.map (some b)) x).run P w = .ok (.tuple #[(F x).getD z, goInt st]) (putObj w b o1) ∧ IsMap (putObj w b o1) b K (upd F x ((F x).getD z)) ∧ (∃ es c, o1 = .map es c) ∧
      ∀ v, ∃ o2, (Instr.entryStore t (.map (some b)) (goInt st) v).run P (putObj w b o1) = .ok () (putObj w b o2) ∧ IsMap (putObj w b o2) b K (upd F x v) ∧ (∃ es c, o2 = .map es c) := by
  have hlt := h.lt
  have hstore := fun v => h.store hK ht hx v
  obtain ⟨es, clock, hb, hs, hk, hF, hF'⟩ := h
  obtain ⟨s1, s2, s3⟩ := hs
  have hput : ∀ (o o' : Obj), putObj (putObj w b o) b o' = putObj w b o' := fun o o' => by simp [putObj]
  have hget : ∀ (o : Obj), (putObj w b o).heap[b]? = some o := fun o => by rw [putObj_heap, if_pos ⟨rfl, hlt⟩]
  rcases hK.find w hx es.toList hk with ⟨h1, h2⟩ | ⟨j, e0, h1, h2, h3⟩
  · have hnone : F x = none := by
      cases hc : F x with
      | none => rfl
      | some v =>
        obtain ⟨y, hy, h4, _⟩ := hF' _ _ hc
        exact absurd h4 (h2 y hy)
    have hup : ∀ v, (Instr.mapUpdate t (.map (some b)) x v).run P w = .ok () (putObj w b (.map (es.push { key := x, val := v, born := clock }) (clock + 1))) := fun v => by
      simp [Instr.mapUpdate, run_underlying ht, MapKept.run_getObj_map hb, hK.check w false hx, h1, MapKept.run_setObj_map _ hb, Result.andThen, putObj]
    have hIs : ∀ v, IsMap (putObj w b (.map (es.push { key := x, val := v, born := clock }) (clock + 1))) b K (upd F x v) := fun v => by
      obtain ⟨o, ho, hi, _⟩ := hstore v
      rw [hup v] at ho
      have : putObj w b (.map (es.push { key := x, val := v, born := clock }) (clock + 1)) = putObj w b o := by injection ho
      rw [this]
      exact hi
    refine ⟨clock, .map (es.push { key := x, val := z, born := clock }) (clock + 1), ?_, by rw [hnone]; exact hIs z, ⟨_, _, rfl⟩, fun v => ⟨.map (es.push { key := x, val := v, born := clock }) (clock + 1), ?_, hIs v, ⟨_, _, rfl⟩⟩⟩
    · rw [hnone]
      simp [Instr.mapEntry, run_underlying ht, MapKept.run_getObj_map hb, hK.check w false hx, h1, hz, MapKept.run_setObj_map _ hb, Result.andThen, putObj]
    · have hidx : (es.push { key := x, val := z, born := clock }).findIdx? (fun e => ((e.born : Nat) : Int) == ((clock : Nat) : Int)) = some es.size := by
        rw [WideElems.findIdx_arr]
        exact WideElems.findIdx_born (j := es.size) (e0 := { key := x, val := z, born := clock }) (by
          simp only [Array.toList_push, List.map_append, List.map_cons, List.map_nil]
          refine List.nodup_append.2 ⟨s2, by simp, fun a ha c hc e1 => ?_⟩
          simp only [List.mem_singleton] at hc
          obtain ⟨y, hy, rfl⟩ := List.mem_map.1 ha
          have := s1 y hy
          omega) (by simp)
      have hmod : (es.push { key := x, val := z, born := clock }).modify es.size (fun e => { e with val := v }) = es.push { key := x, val := v, born := clock } := by
        apply Array.ext
        · simp
        · intro i h1 h2
          simp only [Array.getElem_modify, Array.getElem_push]
          by_cases hi : es.size = i
          · subst hi; simp
          · have : i < es.size := by simp at h2; omega
            simp [hi, this]
      have hrun : ∀ w2 : World, w2.heap[b]? = some (.map (es.push { key := x, val := z, born := clock }) (clock + 1)) → (Instr.entryStore t (.map (some b)) (goInt clock) v).run P w2 = .ok () (putObj w2 b (.map (es.push { key := x, val := v, born := clock }) (clock + 1))) := fun w2 hw2 => by
        simp [Instr.entryStore, MapKept.run_getObj_map hw2, asInt, asIntOf, goInt, hidx, hmod, MapKept.run_setObj_map _ hw2, Result.andThen, putObj]
      rw [hrun _ (hget _), hput]
  · have hj : es[j]? = some e0 := by simpa using h2
    have hsome : F x = some e0.val := by rw [← h3]; exact hF e0 (List.mem_of_getElem? h2)
    have hup : ∀ v, (Instr.mapUpdate t (.map (some b)) x v).run P w = .ok () (putObj w b (.map (es.modify j (fun e' => { e' with key := x, val := v })) clock)) := fun v => by
      simp [Instr.mapUpdate, run_underlying ht, MapKept.run_getObj_map hb, hK.check w false hx, h1, hj, h3, hK.stays w hx, MapKept.run_setObj_map _ hb, Result.andThen, putObj]
    have hIs : ∀ v, IsMap (putObj w b (.map (es.modify j (fun e' => { e' with key := x, val := v })) clock)) b K (upd F x v) := fun v => by
      obtain ⟨o, ho, hi, _⟩ := hstore v
      rw [hup v] at ho
      have : putObj w b (.map (es.modify j (fun e' => { e' with key := x, val := v })) clock) = putObj w b o := by injection ho
      rw [this]
      exact hi
    have hj2 : j < es.size := (Array.getElem?_eq_some_iff.1 hj).1
    have hje : es[j] = e0 := (Array.getElem?_eq_some_iff.1 hj).2
    have hsame : es.modify j (fun e' => { e' with key := x }) = es.modify j (fun e' => { e' with key := x, val := e0.val }) := by
      apply Array.ext
      · simp
      · intro i h1 h2
        simp only [Array.getElem_modify]
        by_cases hi : j = i
        · subst hi; simp [hje]
        · simp [hi]
    refine ⟨e0.born, .map (es.modify j (fun e' => { e' with key := x })) clock, ?_, by rw [hsome, hsame]; exact hIs e0.val, ⟨_, _, rfl⟩, fun v => ⟨.map (es.modify j (fun e' => { e' with key := x, val := v })) clock, ?_, hIs v, ⟨_, _, rfl⟩⟩⟩
    · rw [hsome]
      simp [Instr.mapEntry, run_underlying ht, MapKept.run_getObj_map hb, hK.check w false hx, h1, hj, h3, hK.stays w hx, MapKept.run_setObj_map _ hb, Result.andThen, putObj]
    · have hborn : (es.modify j (fun e' => { e' with key := x })).toList.map (·.born) = es.toList.map (·.born) := by
        apply List.ext_getElem?
        intro i
        simp only [List.getElem?_map, Array.getElem?_toList, Array.getElem?_modify]
        by_cases hi : j = i
        · subst hi; simp [hj]
        · simp [hi]
      have hidx : (es.modify j (fun e' => { e' with key := x })).findIdx? (fun e => ((e.born : Nat) : Int) == ((e0.born : Nat) : Int)) = some j := by
        rw [WideElems.findIdx_arr]
        exact WideElems.findIdx_born (j := j) (e0 := { e0 with key := x }) (by rw [hborn]; exact s2) (by simp [Array.getElem?_modify, hj])
      have hmod : (es.modify j (fun e' => { e' with key := x })).modify j (fun e => { e with val := v }) = es.modify j (fun e' => { e' with key := x, val := v }) := by
        apply Array.ext
        · simp
        · intro i h1 h2
          simp only [Array.getElem_modify]
          by_cases hi : j = i
          · subst hi; simp
          · simp [hi]
      have hrun : ∀ w2 : World, w2.heap[b]? = some (.map (es.modify j (fun e' => { e' with key := x })) clock) → (Instr.entryStore t (.map (some b)) (goInt e0.born) v).run P w2 = .ok () (putObj w2 b (.map (es.modify j (fun e' => { e' with key := x, val := v })) clock)) := fun w2 hw2 => by
        simp [Instr.entryStore, MapKept.run_getObj_map hw2, asInt, asIntOf, goInt, hidx, hmod, MapKept.run_setObj_map _ hw2, Result.andThen, putObj]
      rw [hrun _ (hget _), hput]
end

end Go.Proofs.Ytelljdkcgipkkaa
