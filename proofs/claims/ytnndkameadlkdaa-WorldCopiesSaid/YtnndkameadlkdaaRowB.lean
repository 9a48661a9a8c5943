/- A list of things to do, opened out of its reading. -/
import Derived.Test.YtnndkameadlkdaaRowA
import Derived.Test.YtnndkameadlkdaaDoB
import Derived.Deep.Slices
import Derived.Deep.Fields
namespace Go.Proofs.Ytnndkameadlkdaa
open Go.ChangeShapes Go.WideShapes Go.ChangeAt Go.RowKit Go.Deep

section
variable {H : Type} {enc : TypeId × Value → H} {W : World} {P : Program}

theorem weights_mem_all {e : TypeId} {d : DataW H} {n : Nat} (hn : n ∈ d.weights P e) : ∀ {l : List (DataW H)}, d ∈ l → n ∈ DataW.weightsAll P e l
  | [], h => by cases h
  | x :: xs, h => by
    simp only [DataW.weightsAll, List.mem_append]
    rcases List.mem_cons.1 h with rfl | h
    · exact .inl hn
    · exact .inr (weights_mem_all hn h)

theorem doCells_len (ds : List DoD) : (ds.flatMap DoD.cells).length = ds.length * 5 := by
  induction ds with
  | nil => rfl
  | cons d ds ih => rw [List.flatMap_cons, List.length_append, ih, List.length_cons, Nat.add_mul]; simp [DoD.cells]; omega

theorem came_dos {base : Nat} {v : Value} {d : DataW H} {ps : List MemPlace} {f0 f1 f2 f3 f4 : Field} (h40 : P.underlying 40 = some (.slice 44)) (h44 : P.underlying 44 = some (.struct #[f0, f1, f2, f3, f4]))
    (hone : oneCellFields P #[f0, f1, f2, f3, f4] = true) (hC : P.cellsOf 44 = 5) (t0 : f0.type = 3) (t1 : f1.type = 3) (t2 : f2.type = 3) (t3 : f3.type = 3) (t4 : f4.type = 22)
    (h3 : P.underlying 3 = some (.int .i64)) (h22 : P.underlying 22 = some (.slice 5)) (h5 : P.underlying 5 = some (.int .u8)) (hc5 : P.cellsOf 5 = 1) (hb5 : P.bytesOf 5 = 1) (hb44 : 0 < P.bytesOf 44)
    (hv : Value.okWide P W .any base 40 v) (h : DataW.Trod enc P W 0 (fun _ => true) true 40 v d ps) (hw : ∀ n ∈ d.weights P 40, n ≤ 140737488355328) : ∃ ds, ArgD W v ds := by
  obtain ⟨a0, len, cap, rfl⟩ := okWide_slice h40 hv
  obtain ⟨fuel, hf⟩ := h
  rcases open_slice h40 hf with ⟨hcs, hx⟩ | ⟨a, len', cap', m, n, D, Pl, hcs, _, hl, hm, hmm, hx, hi⟩
  · simp [Value.cells] at hcs
    obtain ⟨rfl, rfl, rfl⟩ := hcs
    exact ⟨[], ⟨none, 0, rfl, Nat.le_refl _, rfl, fun j u hu => (by cases hu)⟩, fun x hx => (by cases hx), by simp⟩
  · simp [Value.cells] at hcs
    obtain ⟨rfl, rfl, rfl⟩ := hcs
    simp only [if_true] at hmm
    subst hmm
    have hd : d = .slice ((List.range len).map D) ((List.range (m - len)).map fun j => D (len + j)) := congrArg Prod.fst hx
    have each : ∀ i, i < len → ∃ d0 : DoD, (∀ j u, d0.cells[j]? = some u → W.cell? (a.add (i * 5 + j)) = some u) ∧ Arg W d0.bv d0.b := by
      intro i hil
      obtain ⟨cs, hc, ht⟩ := hi i (by omega)
      rw [hC] at hc
      obtain ⟨_, hcl, hat⟩ := World.cells?_some hc
      match cs, hcl with
      | [c0, c1, c2, c3, c4], _ =>
        obtain ⟨xs, n', _, hxx, _, hlen, hg⟩ := DataW.trod_struct h44 ht
        obtain ⟨o0, k0⟩ := hone_of hone 0 f0 rfl
        obtain ⟨o1, k1⟩ := hone_of hone 1 f1 rfl
        obtain ⟨o2, k2⟩ := hone_of hone 2 f2 rfl
        obtain ⟨o3, k3⟩ := hone_of hone 3 f3 rfl
        obtain ⟨o4, k4⟩ := hone_of hone 4 f4 rfl
        match xs, hlen with
        | [y0, y1, y2, y3, y4], _ =>
          have g0 : DataW.trod enc P W 0 (fun _ => true) true n' 3 [c0] = some y0 := by have := hg 0 f0 rfl; rw [o0, k0, t0] at this; simpa using this
          have g1 : DataW.trod enc P W 0 (fun _ => true) true n' 3 [c1] = some y1 := by have := hg 1 f1 rfl; rw [o1, k1, t1] at this; simpa using this
          have g2 : DataW.trod enc P W 0 (fun _ => true) true n' 3 [c2] = some y2 := by have := hg 2 f2 rfl; rw [o2, k2, t2] at this; simpa using this
          have g3 : DataW.trod enc P W 0 (fun _ => true) true n' 3 [c3] = some y3 := by have := hg 3 f3 rfl; rw [o3, k3, t3] at this; simpa using this
          have g4 : DataW.trod enc P W 0 (fun _ => true) true n' 22 [c4] = some y4 := by have := hg 4 f4 rfl; rw [o4, k4, t4] at this; simpa using this
          obtain ⟨n0, e0, _⟩ := DataW.trod_int h3 g0
          obtain ⟨n1, e1, _⟩ := DataW.trod_int h3 g1
          obtain ⟨n2, e2, _⟩ := DataW.trod_int h3 g2
          obtain ⟨n3, e3, _⟩ := DataW.trod_int h3 g3
          cases e0; cases e1; cases e2; cases e3
          have hDi : D i = .agg [y0.1, y1.1, y2.1, y3.1, y4.1] := by have := congrArg Prod.fst hxx; simpa using this
          obtain ⟨l, hl4⟩ := trod_bytes (d := y4.1) (ps := y4.2) h22 h5 hc5 g4 (fun el sp e => by
            have hmem : (el.length + sp.length) * P.bytesOf 5 ∈ d.weights P 40 := by
              rw [hd]
              simp only [DataW.weights, h40, List.mem_cons, List.mem_append]
              refine .inr (.inl (weights_mem_all (d := D i) ?_ (List.mem_map.2 ⟨i, List.mem_range.2 hil, rfl⟩)))
              rw [hDi]
              simp only [DataW.weights, h44]
              refine DataW.weights_mem_each (j := 4) (t := f4.type) (d := y4.1) rfl rfl _ ?_
              rw [e, t4]
              simp only [DataW.weights, h22]
              exact List.mem_cons_self ..
            have := hw _ hmem
            rw [hb5] at this
            omega)
          refine ⟨⟨n0, n1, n2, n3, c4, l⟩, fun j u hu => ?_, hl4⟩
          have hj : j < 5 := (List.getElem?_eq_some_iff.1 hu).1
          have e1 := hat j hj
          rw [Go.Deep.add_add] at e1
          rw [e1]
          exact hu
    have hch : ∃ f : Nat → DoD, ∀ i, i < len → (∀ j u, (f i).cells[j]? = some u → W.cell? (a.add (i * 5 + j)) = some u) ∧ Arg W (f i).bv (f i).b := by
      refine ⟨fun i => if h : i < len then Classical.choose (each i h) else ⟨0, 0, 0, 0, .slice none 0 0, []⟩, fun i hi => ?_⟩
      simp only [hi, dif_pos]
      exact Classical.choose_spec (each i hi)
    obtain ⟨f, hf'⟩ := hch
    have hlm : ((List.range len).map f).length = len := by simp
    refine ⟨(List.range len).map f, ⟨some a, m, ?_, ?_, ?_, ?_⟩, ?_, ?_⟩
    · rw [hlm]
    · rw [hlm]; exact hl
    · rw [doCells_len]
    · intro j u hu
      refine ⟨a, rfl, ?_⟩
      have hj : j < len * 5 := by
        have h1 := (List.getElem?_eq_some_iff.1 hu).1
        have h2 : (((List.range len).map f).flatMap DoD.cells).length = len * 5 := by rw [doCells_len, hlm]
        omega
      have hdiv : j = (j / 5) * 5 + j % 5 := by omega
      have hd5 : j / 5 < len := by omega
      rw [hdiv] at hu ⊢
      rw [doCells_at _ _ _ (by rw [hlm]; exact hd5) (by omega)] at hu
      simp only [List.getElem_map, List.getElem_range] at hu
      exact (hf' _ hd5).1 _ _ hu
    · intro x hx
      obtain ⟨i, hi, rfl⟩ := List.mem_map.1 hx
      exact (hf' i (List.mem_range.1 hi)).2
    · rw [hlm]
      have : (len + (m - len)) * P.bytesOf 44 ∈ d.weights P 40 := by
        rw [hd]
        simp only [DataW.weights, h40, List.length_map, List.length_range, List.mem_cons]
        exact .inl trivial
      have h1 := hw _ this
      have h2 : len + (m - len) ≤ (len + (m - len)) * P.bytesOf 44 := Nat.le_mul_of_pos_right _ hb44
      omega
end

end Go.Proofs.Ytnndkameadlkdaa
