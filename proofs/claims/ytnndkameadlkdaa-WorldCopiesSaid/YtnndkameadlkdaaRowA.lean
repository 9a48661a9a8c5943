/- What a law's row takes from the reading of its arguments, and what it asks behind the call. -/
import Derived.Test.YtnndkameadlkdaaLawC
import Derived.Test.YtnndkameadlkdaaRows
import Derived.ProofKit
import Derived.SizedLaws
namespace Go.Proofs.Ytnndkameadlkdaa
open Go.ChangeShapes Go.WideShapes Go.ChangeAt Go.RowKit

theorem Try.own : ownKnob Try.prog.godebug = none := by kernel_rfl
theorem Try.laidOut : laidOutB Try.prog = true := by kernel_rfl

section
variable {H : Type} {enc : TypeId × Value → H} {W W' : World} {P : Program}

/-- The arguments stand as they stood. -/
theorem args_stay (hl : laidOutB P = true) (hb : Below W.heap.size W W') {sp : Nat → Bool} : ∀ {ts : List TypeId} {vs : List Value} {ds : List (DataW H)} {ps : List MemPlace}, (ts.all fun t => P.readableRec t && decide (t < P.types.size)) = true →
    DataW.TrodAll enc P W 0 (fun _ => true) true ts vs ds ps → (∀ p ∈ ps, p.block < W.heap.size) → (∀ p ∈ ps, sp p.block = true) → DataW.TrodAll enc P W' 0 sp true ts vs ds ps
  | [], [], [], _, _, h, _, _ => h
  | [], _ :: _, _, _, _, h, _, _ => h.elim
  | [], [], _ :: _, _, _, h, _, _ => h.elim
  | _ :: _, [], _, _, _, h, _, _ => h.elim
  | _ :: _, _ :: _, [], _, _, h, _, _ => h.elim
  | t :: ts, v :: vs, d :: ds, ps, hr, ⟨p, q, h1, h2, e⟩, hlt, hs => by
    rw [List.all_cons, Bool.and_eq_true, Bool.and_eq_true] at hr
    subst e
    exact ⟨p, q, WideElems.Trod_stays hl hr.1.1 (of_decide_eq_true hr.1.2) h1 (fun x hx => hb.same (hlt x (List.mem_append_left _ hx))) (fun x hx => hs x (List.mem_append_left _ hx)),
      args_stay hl hb hr.2 h2 (fun x hx => hlt x (List.mem_append_right _ hx)) (fun x hx => hs x (List.mem_append_right _ hx)), rfl⟩

/-- The row's end: true, and the arguments as they were. -/
theorem law_post {f : Func} {s : ChangeSpec} {args : Array Value} {ds gs : List (DataW H)} {before : List MemPlace}
    (hl : laidOutB P = true) (h4 : P.underlying 4 = some .bool) (hW : DataW.Whole enc P f.params.toList s.vars false W args.toList ds gs before) (hvars : s.vars = []) (hres : f.resultTypes = #[4])
    (hs : s.fn H ds = { results := [.lit (.bool true)], args := ds }) (hr : (f.params.toList.all fun t => P.readableRec t && decide (t < P.types.size)) = true)
    (hb : Below W.heap.size W W') : s.post enc P f false true false false W args (.bool true) W' := by
  have hlt : ∀ p ∈ before, p.block < W.heap.size := fun p hp => hW.lt p hp
  have hW0 := hW
  obtain ⟨p, q, hA, hV, rfl, hz, hn⟩ := hW
  have hg : gs = [] ∧ q = [] := by
    rw [hvars] at hV
    cases gs with
    | nil => exact ⟨rfl, hV⟩
    | cons _ _ => exact hV.elim
  obtain ⟨rfl, rfl⟩ := hg
  rw [List.append_nil] at hlt
  refine ⟨ds, [], p ++ [], [], p, [], hW0, ?_, ?_, ?_, World.keptBut_mono (fun x hx => ⟨hx, .inr (.inl (by simpa using hx))⟩) (hb.frame (· ∈ p ++ [])), fun h => by cases h⟩
  · rw [List.append_nil, hs, hres]
    exact ⟨[], [], shut_bool h4 true, rfl, rfl⟩
  · rw [List.append_nil, hs]
    exact args_stay hl hb hr hA hlt (fun x hx => by simpa using hlt x hx)
  · rw [List.append_nil, hs, hvars]
    rfl

/-- A slice of bytes, read. -/
theorem trod_bytes {fuel : Nat} {v : Value} {d : DataW H} {ps : List MemPlace} (h22 : P.underlying 22 = some (.slice 5)) (h5 : P.underlying 5 = some (.int .u8)) (hc5 : P.cellsOf 5 = 1)
    (hf : DataW.trod enc P W 0 (fun _ => true) true fuel 22 [v] = some (d, ps)) (hz : ∀ el sp, d = .slice el sp → el.length + sp.length ≤ 140737488355328) : ∃ l, Arg W v l := by
  rcases open_ints h22 h5 hc5 hf with ⟨hcs, hx⟩ | ⟨a, len, cap, zs, hcs, _, hl, hm, hz', hx, hcell, hwz⟩
  · cases hcs
    exact ⟨[], ⟨none, 0, rfl, Nat.le_refl _, rfl, fun j u hu => (by cases hu)⟩, fun _ _ _ e => (by cases e), fun x hx => (by cases hx), by simp⟩
  · cases hcs
    simp only [if_true] at hz'
    have hd : d = .slice (lits .u8 (zs.take len)) (lits .u8 (zs.drop len)) := congrArg Prod.fst hx
    have hll : (zs.take len).length = len := by rw [List.length_take]; omega
    have hcl : ∀ j u, (bys (zs.take len))[j]? = some u → ∃ ad, some a = some ad ∧ W.cell? (ad.add j) = some u := by
      intro j u hu
      have hj : j < len := by
        have h1 := (List.getElem?_eq_some_iff.1 hu).1
        rwa [bys_length, hll] at h1
      refine ⟨a, rfl, ?_⟩
      rw [hcell j (by omega)]
      have e1 : (bys (zs.take len))[j]? = some (.int .u8 (zs.getD j 0)) := by
        have hjz : j < zs.length := by omega
        simp [bys, List.getElem?_map, List.getElem?_take, hj, List.getElem?_eq_getElem hjz]
      rw [← hu, e1]
    refine ⟨zs.take len, ?_, ?_, ?_, ?_⟩
    · rw [hll]
      exact ⟨some a, cap, rfl, hl, by rw [bys_length, hll]; omega, hcl⟩
    · intro ad n c e hn
      cases e
      have h0 := hcell 0 (by omega)
      have := World.block_lt_of_cell? W _ h0
      rwa [add_block] at this
    · intro x hx
      have := hwz x (List.mem_of_mem_take hx)
      simp only [Lit.wf, Bool.and_eq_true, decide_eq_true_eq] at this
      exact this
    · have := hz _ _ hd
      have e1 : ∀ xs : List Int, (lits (H := H) .u8 xs).length = xs.length := fun xs => by simp [lits]
      rw [e1, e1, List.length_drop] at this
      omega
/-- A slice of bytes that came in. -/
theorem came_bytes {base : Nat} {v : Value} {d : DataW H} {ps : List MemPlace} (h22 : P.underlying 22 = some (.slice 5)) (h5 : P.underlying 5 = some (.int .u8)) (hc5 : P.cellsOf 5 = 1) (hv : Value.okWide P W .any base 22 v) (h : DataW.Trod enc P W 0 (fun _ => true) true 22 v d ps)
    (hz : ∀ el sp, d = .slice el sp → el.length + sp.length ≤ 140737488355328) : ∃ l, Arg W v l := by
  obtain ⟨a0, len, cap, rfl⟩ := okWide_slice h22 hv
  obtain ⟨fuel, hf⟩ := h
  exact trod_bytes h22 h5 hc5 (by simpa [Value.cells] using hf) hz

/-- A byte that came in. -/
theorem came_byte {base : Nat} {v : Value} {d : DataW H} {ps : List MemPlace} (h5 : P.underlying 5 = some (.int .u8)) (hv : Value.okWide P W .any base 5 v) (h : DataW.Trod enc P W 0 (fun _ => true) true 5 v d ps) : ∃ n, v = .int .u8 n ∧ 0 ≤ n ∧ n ≤ 255 := by
  obtain ⟨a, rfl, rfl, rfl, wa⟩ := open_int h5 hv h
  simp only [Lit.wf, Bool.and_eq_true, decide_eq_true_eq] at wa
  exact ⟨a, rfl, wa.1, wa.2⟩
end

end Go.Proofs.Ytnndkameadlkdaa
