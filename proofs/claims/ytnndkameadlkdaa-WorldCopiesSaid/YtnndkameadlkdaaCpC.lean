/- The walk of WorldCopies: up to the copy. -/
import Derived.Test.YtnndkameadlkdaaRfK
import Derived.Test.YtnndkameadlkdaaCpB
import Derived.Test.YtnndkameadlkdaaLawE
import Derived.Test.YtnndkameadlkdaaLawK
namespace Go.Proofs.Ytnndkameadlkdaa
open Go.RowKit

theorem bd_of_rep {w : World} {b : Nat} {t : WS} {F : Nat → Prop} (h : Rep w b t F) : Bd t ∧ 0 ≤ t.counter ∧ t.counter ≤ 18446744073709551615 ∧ Byt (t.seals 0) := by
  obtain ⟨⟨ms, ml, s0, s1, tv, M, L, bs, h⟩, hr⟩ := h
  exact ⟨⟨h.power0, h.power1, h.reads0, by have := h.small; omega, h.small, h.slots.len, h.ok0.1, h.ok1.1⟩, h.counter0, h.counter1, h.ok0.2⟩

/-- The reference's world in a box. -/
structure Box (w0 w : World) (F : Nat → Prop) (g : Nat) (t : WS) (n : Nat) : Prop where
  ex : ∃ C, w.heap[g]? = some (.cells C 56 (0, 0)) ∧ RefT F w (.agg C) t n
  ge : w0.heap.size ≤ g
  out : ¬ F g
theorem RefT.cells {F : Nat → Prop} {w : World} {C : Array Value} {t : WS} {n : Nat} (h : RefT F w (.agg C) t n) : C.size = 10 ∧ C.all (·.oneCell') = true ∧ (∀ m, ∀ x ∈ C.toList, x ≠ .int .u8 m) ∧ ∃ T c, C[9]? = some (.slice T t.trace.length c) ∧ C[8]? = some (.bool t.dead) ∧ TrN F w (.slice T t.trace.length c) t.trace := by
  obtain ⟨S, E, L, T, cs, ce, cl, ct, sl, ll, e, hD, hll⟩ := h
  cases e
  exact ⟨rfl, tcells_one .., fun m => tcells_u8 _ _ _ _ _ _ _ _ _ _ _ _ _ m, T, ct, rfl, rfl, hD.trace⟩
theorem Box.evo {w0 w w' : World} {F : Nat → Prop} {g : Nat} {t : WS} {n : Nat} (h : Box w0 w F g t n) (he : Evo (fun _ => False) w w') : Box w0 w' F g t n := by
  obtain ⟨⟨C, hC, hR⟩, h1, h2⟩ := h
  exact ⟨⟨C, (he.block g (heap_lt hC) (fun hf => hf)).trans hC, hR.evo0 he⟩, h1, h2⟩
theorem Box.turn {w0 w w' : World} {F F' : Nat → Prop} {g : Nat} {t : WS} {n : Nat} (h : Box w0 w F g t n) (he : Evo F w w') (hF : ∀ k, F' k → F k ∨ w.heap.size ≤ k) (ho : ∀ k, F k → F' k) : Box w0 w' F' g t n := by
  obtain ⟨⟨C, hC, hR⟩, h1, h2⟩ := h
  refine ⟨⟨C, (he.block g (heap_lt hC) h2).trans hC, (hR.other hF).turn (he.mono ho)⟩, h1, fun hf => ?_⟩
  rcases hF g hf with h3 | h3
  · exact h2 h3
  · have := heap_lt hC
    omega
theorem Box.lt {w0 w : World} {F : Nat → Prop} {g : Nat} {t : WS} {n : Nat} (h : Box w0 w F g t n) : g < w.heap.size := by
  obtain ⟨⟨C, hC, hR⟩, h1, h2⟩ := h
  exact heap_lt hC
/-- Another box is written. -/
theorem Box.beside {w0 w w' : World} {F : Nat → Prop} {g g' : Nat} {t : WS} {n : Nat} (h : Box w0 w F g t n) (he : Evo (fun k => k = g') w w') (hb : Boxed (fun k => k = g') w) (hn : g ≠ g') : Box w0 w' F g t n := by
  obtain ⟨⟨C, hC, hR⟩, h1, h2⟩ := h
  refine ⟨⟨C, (he.block g (heap_lt hC) hn).trans hC, ?_⟩, h1, h2⟩
  obtain ⟨S, E, L, T, cs, ce, cl, ct, sl, ll, e, hD, hll⟩ := hR
  exact ⟨S, E, L, T, cs, ce, cl, ct, sl, ll, e, hD.keepF he hb, hll⟩
theorem Box.boxed {w0 w : World} {F : Nat → Prop} {g : Nat} {t : WS} {n : Nat} (h : Box w0 w F g t n) : Boxed (fun k => k = g) w := by
  obtain ⟨⟨C, hC, hR⟩, h1, h2⟩ := h
  rintro k rfl
  exact ⟨C, hC, hR.cells.2.2.1⟩

/-- What Step leaves: a box, what is told. -/
structure Told (w0 w : World) (F : Nat → Prop) (g : Nat) (t : WS) (n : Nat) (B : Option Addr) (c : Nat) (l : List Int) : Prop where
  box : Box w0 w F g t n
  src : SrcN F w 1 (.slice B l.length c) l.length (bys l)

theorem Box.other {w0 w : World} {F F' : Nat → Prop} {g : Nat} {t : WS} {n : Nat} (h : Box w0 w F g t n) (hN : ∀ k, F' k → w.heap.size ≤ k) : Box w0 w F' g t n := by
  have hl := h.lt
  obtain ⟨⟨C, hC, hR⟩, h1, h2⟩ := h
  exact ⟨⟨C, hC, hR.other (fun k hk => .inr (hN k hk))⟩, h1, fun hf => by have := hN g hf; omega⟩
theorem didL_byt {w : World} {b : Nat} {t : WS} {F : Nat → Prop} (h : Rep w b t F) (d : DoD) : Byt (t.didL d) := by
  obtain ⟨⟨ms, ml, s0, s1, tv, M, L, bs, h⟩, hr⟩ := h
  have nil : Byt [] := fun x hx => by cases hx
  have says : ∀ l, Byt l → Byt (t.says l) := fun l hl => by
    unfold WS.says
    cases hx : t.lies t.reads with
    | none => exact hl
    | some x =>
      obtain ⟨v, _, _, hok⟩ := h.lies.some_ _ _ hx
      exact hok.2
  unfold WS.didL
  split
  · unfold WS.readB
    split
    · exact says _ (h.slots.byt _ _)
    · exact nil
  · split
    · unfold WS.lookB
      cases hs : t.sealed d.at_ with
      | true =>
        rw [if_pos rfl]
        obtain ⟨_, h01⟩ := sealed_of hs
        rcases h01 with e | e
        · rw [e]; exact says _ h.ok0.2
        · rw [e]; exact says _ h.ok1.2
      | false => rw [if_neg (by simp)]; exact nil
    · exact nil

theorem size44 : (Try.prog.info? 44).map (·.size) = some 5 := by kernel_rfl
theorem load44 (w : World) (b o : Nat) (d : DoD) (hc : ∀ j u, d.cells[j]? = some u → w.cell? ⟨b, o + j, none⟩ = some u) : (Instr.loadAt 44 (.pointer (some ⟨b, o, none⟩))).run Try.prog w = .ok (.agg d.cells.toArray) w := by
  simp only [Instr.loadAt, Instr.sureAddr, Sem.run_bind, Sem.run_pure, Result.andThen]
  exact run_loadVar_mid w b o 44 d.cells _ hc Try.underlying44 rfl size44

theorem Arg.srcN {w0 w : World} {v : Value} {l : List Int} {F : Nat → Prop} {b : Nat} {t : WS} (h : Arg w0 v l) (s : St w0 w b t F) : SrcN F w 1 v l.length (bys l) :=
  ⟨h.srcAt s.evo, fun h0 ad c e => (h.hF s ad _ c e (by rwa [bys_length] at h0)).2⟩

/-- Step, in a region that draws: its box, then what is told. -/
theorem told_mkA {w0 w w1 : World} {F : Nat → Prop} {t' : WS} {n : Nat} {v' : Value} {B : Option Addr} {c : Nat} {l : List Int} (hw : w0.heap.size ≤ w.heap.size) (hN : ∀ k, F k → k < w.heap.size) (he : Evo (fun _ => False) w w1) (hR : RefT F w1 v' t' n) (hs : SrcN F w1 1 (.slice B l.length c) l.length (bys l)) :
    ∃ C', v' = .agg C' ∧ C'.size = 10 ∧ C'.all (·.oneCell') = true ∧ Told w0 (w1.alloc (.cells C' 56)) F w1.heap.size t' n B c l := by
  obtain ⟨S, E, L, T, cs, ce, cl, ct, sl, ll, rfl, hD, hll⟩ := hR
  have := he.size
  exact ⟨_, rfl, rfl, tcells_one .., ⟨⟨_, heap_alloc_new _ _, ⟨S, E, L, T, cs, ce, cl, ct, sl, ll, rfl, hD.evo0 ((Evo.refl _ w1).alloc _), hll⟩⟩, by omega, fun hf => by have := hN _ hf; omega⟩, hs.alloc _⟩
theorem told_mkB {w0 w1 : World} {F : Nat → Prop} {t' : WS} {n g : Nat} {v' : Value} {B : Option Addr} {c : Nat} {l : List Int} (hg0 : w0.heap.size ≤ g) (hg : w1.heap[g]? = some (.cells z56 56 (0, 0))) (hgF : ¬ F g) (hR : RefT F w1 v' t' n) (hs : SrcN F w1 1 (.slice B l.length c) l.length (bys l)) :
    ∃ C', v' = .agg C' ∧ C'.size = 10 ∧ C'.all (·.oneCell') = true ∧ ∃ w3, (Instr.storeAt 56 (.pointer (some ⟨g, 0, none⟩)) (.agg C')).run Try.prog w1 = .ok () w3 ∧ Evo (fun k => k = g) w1 w3 ∧ Told w0 w3 F g t' n B c l := by
  obtain ⟨S, E, L, T, cs, ce, cl, ct, sl, ll, rfl, hD, hll⟩ := hR
  obtain ⟨w3, hst, hg3, he⟩ := store56 w1 g _ (tcells t' (.slice S 8 cs) (.slice E 2 ce) (.slice L ll.length cl) (.slice T t'.trace.length ct)) hg rfl rfl (tcells_one ..)
  have hb : Boxed (fun k => k = g) w1 := by
    rintro k rfl
    exact ⟨_, hg, z56_u8⟩
  exact ⟨_, rfl, rfl, tcells_one .., w3, hst, he, ⟨⟨_, hg3, ⟨S, E, L, T, cs, ce, cl, ct, sl, ll, rfl, hD.keepF he hb, hll⟩⟩, hg0, hgF⟩, hs.keepF he hb⟩

end Go.Proofs.Ytnndkameadlkdaa
