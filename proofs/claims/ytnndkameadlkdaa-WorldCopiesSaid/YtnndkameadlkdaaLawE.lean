/- Two worlds beside one another; the data of WorldLies. -/
import Derived.Test.YtnndkameadlkdaaLawD
namespace Go.Proofs.Ytnndkameadlkdaa
open Go.RowKit

structure St2 (w0 w : World) (b1 : Nat) (t1 : WS) (F1 : Nat → Prop) (b2 : Nat) (t2 : WS) (F2 : Nat → Prop) : Prop where
  one : St w0 w b1 t1 F1
  two : St w0 w b2 t2 F2
  dis : ∀ k, F1 k → ¬ F2 k

section
variable {w0 w w' : World} {b1 b2 : Nat} {t1 t2 t' : WS} {F1 F2 F' : Nat → Prop}
theorem St2.left (h : St2 w0 w b1 t1 F1 b2 t2 F2) (g : Goes w F1 b1 t' w' F') : St2 w0 w' b1 t' F' b2 t2 F2 where
  one := h.one.goes g
  two := ⟨h.two.rep.apart g.evo (fun k hk hf => h.dis k hf hk), evo_fresh h.one.evo g.evo h.one.new, h.two.new⟩
  dis k hk hf := by
    rcases g.new k hk with h1 | h1
    · exact h.dis k h1 hf
    · have := h.two.rep.lt k hf
      omega
theorem St2.swap (h : St2 w0 w b1 t1 F1 b2 t2 F2) : St2 w0 w b2 t2 F2 b1 t1 F1 := ⟨h.two, h.one, fun k h2 h1 => h.dis k h1 h2⟩
theorem St2.right (h : St2 w0 w b1 t1 F1 b2 t2 F2) (g : Goes w F2 b2 t' w' F') : St2 w0 w' b1 t1 F1 b2 t' F' := (h.swap.left g).swap
theorem St2.turn (h : St2 w0 w b1 t1 F1 b2 t2 F2) (e : Evo (fun _ => False) w w') : St2 w0 w' b1 t1 F1 b2 t2 F2 := ⟨h.one.turn e, h.two.turn e, h.dis⟩
theorem St2.alloc (h : St2 w0 w b1 t1 F1 b2 t2 F2) (o : Obj) : St2 w0 (w.alloc o) b1 t1 F1 b2 t2 F2 := h.turn ((Evo.refl _ w).alloc o)
/-- What one world told is no block of the other's. -/
theorem Res.beside {v : Value} {l : List Int} (h : Res w w' F' v l) (he : Evo (fun _ => False) w0 w) (hF : ∀ k, F2 k → k < w.heap.size) : Mine w0 w' F2 v l := by
  obtain ⟨A, c, e, ho, hn⟩ := h
  refine ⟨A, c, e, ownsRow_base ho (fun g hg => Nat.le_trans he.size (ho.lt g hg).1), fun g hg hf => ?_⟩
  have := (ho.lt g hg).1
  have := hF g hf
  omega
end

/-! ### the data of WorldLies -/
structure LiesInv (t v : WS) (k i : Int) (b : List Int) (n : Nat) : Prop where
  c1 : t.Calm 3
  c2 : v.Calm 3
  slots : t.slots = v.slots
  r1 : t.reads = i
  r2 : v.reads = i
  l1 : ∀ m, t.lies m = if m = k then some b else none
  l2 : ∀ m, v.lies m = none
  n1 : t.trace.length ≤ n
  n2 : v.trace.length ≤ n

section
variable {t v : WS} {k i : Int} {b : List Int} {n : Nat}
theorem LiesInv.write (h : LiesInv t v k i b n) {p s : Int} (hp : 0 ≤ p ∧ p < 3) (hs : 0 ≤ s ∧ s < 2) (x : List Int) : LiesInv (t.write p s x) (v.write p s x) k i b (n + 1) := by
  have hs' : s = 0 ∨ s = 1 := by omega
  obtain ⟨c1, _, l1, r1, s1, n1⟩ := h.c1.write hp.1 hp.2 hs' x
  obtain ⟨c2, _, l2, r2, s2, n2⟩ := h.c2.write hp.1 hp.2 hs' x
  refine ⟨c1, c2, by rw [s1, s2, h.slots], r1.trans h.r1, r2.trans h.r2, by rw [l1]; exact h.l1, by rw [l2]; exact h.l2, ?_, ?_⟩
  · rw [n1]; have := h.n1; simp; omega
  · rw [n2]; have := h.n2; simp; omega
theorem LiesInv.read (h : LiesInv t v k i b n) {p s : Int} (hp : 0 ≤ p ∧ p < 3) (hs : 0 ≤ s ∧ s < 2) :
    LiesInv (t.read p s) (v.read p s) k (i + 1) b (n + 1) ∧ v.readB p s = v.slots p s ∧ t.readB p s = if i = k then b else v.slots p s := by
  have hs' : s = 0 ∨ s = 1 := by omega
  obtain ⟨c1, b1, l1, r1, s1, n1⟩ := h.c1.read hp.1 hp.2 hs'
  obtain ⟨c2, b2, l2, r2, s2, n2⟩ := h.c2.read hp.1 hp.2 hs'
  refine ⟨⟨c1, c2, by rw [s1, s2, h.slots], by rw [r1, h.r1], by rw [r2, h.r2], by rw [l1]; exact h.l1, by rw [l2]; exact h.l2, ?_, ?_⟩, ?_, ?_⟩
  · rw [n1]; have := h.n1; omega
  · rw [n2]; have := h.n2; omega
  · rw [b2, h.l2]; rfl
  · rw [b1, h.l1, h.r1, h.slots]
    split <;> rfl
end

theorem lies_start (k : Int) (a b : List Int) : LiesInv (((WS.new 3).lie k a).lie k b) (WS.new 3) k 0 b 0 := by
  have c0 := calm_new 3 (by omega) (by omega)
  refine ⟨(c0.lie k a).lie k b, c0, rfl, rfl, rfl, fun m => ?_, fun m => rfl, Nat.le_refl _, Nat.le_refl _⟩
  simp only [WS.lie, WS.new]
  split <;> rfl
theorem calm_slots_okb {w : World} {b : Nat} {t : WS} {F : Nat → Prop} (h : Rep w b t F) (p s : Int) : Okb (t.slots p s) := by
  obtain ⟨⟨ms, ml, s0, s1, tv, M, L, bs, h⟩, _⟩ := h
  exact slots_okb h.slots p s

end Go.Proofs.Ytnndkameadlkdaa
