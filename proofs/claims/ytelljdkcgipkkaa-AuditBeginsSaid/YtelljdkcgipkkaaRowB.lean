/- A list of things to do, opened out of its reading. -/
import Derived.Test.YtelljdkcgipkkaaRowA
import Derived.Deep.Slices
import Derived.Deep.Fields
namespace Go.Proofs.Ytelljdkcgipkkaa
open Go.ChangeShapes Go.WideShapes Go.ChangeAt Go.RowKit Go.Deep

section
variable {H : Type} {enc : TypeId × Value → H} {W : World} {P : Program}

theorem weights_mem_all {e : TypeId} {d : DataW H} {n : Nat} (hn : n ∈ d.weights P e) : ∀ {l : List (DataW H)}, d ∈ l → n ∈ DataW.weightsAll P e l
  | [], h => by cases h
  | x :: xs, h => by
    simp only [DataW.weightsAll, List.mem_append]
    rcases List.mem_cons.1 h with rfl | h
    · exact .inl hn
    · exact .inr (weights_mem_all hn h)

theorem itCells_len (ds : List ItD) : (ds.flatMap ItD.cells).length = ds.length * 2 := by
  induction ds with
  | nil => rfl
  | cons d ds ih => rw [List.flatMap_cons, List.length_append, ih, List.length_cons, Nat.add_mul]; simp [ItD.cells]; omega

theorem came_items {base : Nat} {v : Value} {d : DataW H} {ps : List MemPlace} {f0 f1 : Field} (h22 : P.underlying 22 = some (.slice 26)) (h26 : P.underlying 26 = some (.struct #[f0, f1]))
    (hone : oneCellFields P #[f0, f1] = true) (hC : P.cellsOf 26 = 2) (t0 : f0.type = 3) (t1 : f1.type = 24)
    (h3 : P.underlying 3 = some (.int .i64)) (h24 : P.underlying 24 = some (.slice 5)) (h5 : P.underlying 5 = some (.int .u8)) (hc5 : P.cellsOf 5 = 1) (hb5 : P.bytesOf 5 = 1) (hb26 : 0 < P.bytesOf 26)
    (hv : Value.okWide P W .any base 22 v) (h : DataW.Trod enc P W 0 (fun _ => true) true 22 v d ps) (hw : ∀ n ∈ d.weights P 22, n ≤ 140737488355328) : ∃ ds, ArgI W v ds := by
  obtain ⟨a0, len, cap, rfl⟩ := okWide_slice h22 hv
  obtain ⟨fuel, hf⟩ := h
  rcases open_slice h22 hf with ⟨hcs, hx⟩ | ⟨a, len', cap', m, n, D, Pl, hcs, _, hl, hm, hmm, hx, hi⟩
  · simp [Value.cells] at hcs
    obtain ⟨rfl, rfl, rfl⟩ := hcs
    exact ⟨[], ⟨none, 0, rfl, Nat.le_refl _, rfl, fun j u hu => (by cases hu)⟩, fun x hx => (by cases hx), by simp⟩
  · simp [Value.cells] at hcs
    obtain ⟨rfl, rfl, rfl⟩ := hcs
    simp only [if_true] at hmm
    subst hmm
    have hd : d = .slice ((List.range len).map D) ((List.range (m - len)).map fun j => D (len + j)) := congrArg Prod.fst hx
    have each : ∀ i, i < len → ∃ d0 : ItD, (∀ j u, d0.cells[j]? = some u → W.cell? (a.add (i * 2 + j)) = some u) ∧ Src W 1 d0.bv d0.b.length (bys d0.b) ∧ Byt d0.b ∧ d0.b.length ≤ 140737488355328 := by
      intro i hil
      obtain ⟨cs, hc, ht⟩ := hi i (by omega)
      rw [hC] at hc
      obtain ⟨_, hcl, hat⟩ := World.cells?_some hc
      match cs, hcl with
      | [c0, c1], _ =>
        obtain ⟨xs, n', _, hxx, _, hlen, hg⟩ := DataW.trod_struct h26 ht
        obtain ⟨o0, k0⟩ := hone_of hone 0 f0 rfl
        obtain ⟨o1, k1⟩ := hone_of hone 1 f1 rfl
        match xs, hlen with
        | [y0, y1], _ =>
          have g0 : DataW.trod enc P W 0 (fun _ => true) true n' 3 [c0] = some y0 := by have := hg 0 f0 rfl; rw [o0, k0, t0] at this; simpa using this
          have g1 : DataW.trod enc P W 0 (fun _ => true) true n' 24 [c1] = some y1 := by have := hg 1 f1 rfl; rw [o1, k1, t1] at this; simpa using this
          obtain ⟨n0, e0, _⟩ := DataW.trod_int h3 g0
          cases e0
          have hDi : D i = .agg [y0.1, y1.1] := by have := congrArg Prod.fst hxx; simpa using this
          obtain ⟨l, hl4⟩ := trod_bytes (d := y1.1) (ps := y1.2) h24 h5 hc5 g1 (fun el sp e => by
            have hmem : (el.length + sp.length) * P.bytesOf 5 ∈ d.weights P 22 := by
              rw [hd]
              simp only [DataW.weights, h22, List.mem_cons, List.mem_append]
              refine .inr (.inl (weights_mem_all (d := D i) ?_ (List.mem_map.2 ⟨i, List.mem_range.2 hil, rfl⟩)))
              rw [hDi]
              simp only [DataW.weights, h26]
              refine DataW.weights_mem_each (j := 1) (t := f1.type) (d := y1.1) rfl rfl _ ?_
              rw [e, t1]
              simp only [DataW.weights, h24]
              exact List.mem_cons_self ..
            have := hw _ hmem
            rw [hb5] at this
            omega)
          refine ⟨⟨n0, c1, l⟩, fun j u hu => ?_, hl4⟩
          have hj : j < 2 := (List.getElem?_eq_some_iff.1 hu).1
          have e1 := hat j hj
          rw [Go.Deep.add_add] at e1
          rw [e1]
          exact hu
    have hch : ∃ f : Nat → ItD, ∀ i, i < len → (∀ j u, (f i).cells[j]? = some u → W.cell? (a.add (i * 2 + j)) = some u) ∧ Src W 1 (f i).bv (f i).b.length (bys (f i).b) ∧ Byt (f i).b ∧ (f i).b.length ≤ 140737488355328 := by
      refine ⟨fun i => if h : i < len then Classical.choose (each i h) else ⟨0, .slice none 0 0, []⟩, fun i hi => ?_⟩
      simp only [hi, dif_pos]
      exact Classical.choose_spec (each i hi)
    obtain ⟨f, hf'⟩ := hch
    have hlm : ((List.range len).map f).length = len := by simp
    refine ⟨(List.range len).map f, ⟨some a, m, ?_, ?_, ?_, ?_⟩, ?_, ?_⟩
    · rw [hlm]
    · rw [hlm]; exact hl
    · rw [itCells_len]
    · intro j u hu
      refine ⟨a, rfl, ?_⟩
      have hj : j < len * 2 := by
        have h1 := (List.getElem?_eq_some_iff.1 hu).1
        have h2 : (((List.range len).map f).flatMap ItD.cells).length = len * 2 := by rw [itCells_len, hlm]
        omega
      have hdiv : j = (j / 2) * 2 + j % 2 := by omega
      have hd5 : j / 2 < len := by omega
      rw [hdiv] at hu ⊢
      rw [itCells_at _ _ _ (by rw [hlm]; exact hd5) (by omega)] at hu
      simp only [List.getElem_map, List.getElem_range] at hu
      exact (hf' _ hd5).1 _ _ hu
    · intro x hx
      obtain ⟨i, hi, rfl⟩ := List.mem_map.1 hx
      exact (hf' i (List.mem_range.1 hi)).2
    · rw [hlm]
      have : (len + (m - len)) * P.bytesOf 26 ∈ d.weights P 22 := by
        rw [hd]
        simp only [DataW.weights, h22, List.length_map, List.length_range, List.mem_cons]
        exact .inl trivial
      have h1 := hw _ this
      have h2 : len + (m - len) ≤ (len + (m - len)) * P.bytesOf 26 := Nat.le_mul_of_pos_right _ hb26
      omega
end

end Go.Proofs.Ytelljdkcgipkkaa
