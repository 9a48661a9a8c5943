/- What a law holds while it goes on: its worlds, its own rows, its arguments; and the law's 'known'. -/
import Derived.Test.YtnndkameadlkdaaOpsG
namespace Go.Proofs.Ytnndkameadlkdaa
open Go.RowKit

/-- Behind the start w0 there is a world t at b, in blocks that are new. -/
structure St (w0 w : World) (b : Nat) (t : WS) (F : Nat → Prop) : Prop where
  rep : Rep w b t F
  evo : Evo (fun _ => False) w0 w
  new : ∀ k, F k → w0.heap.size ≤ k

/-- A row of bytes of the call's own, that is no world's. -/
def Mine (w0 w : World) (F : Nat → Prop) (v : Value) (l : List Int) : Prop :=
  ∃ A c, v = .slice A l.length c ∧ w.ownsRow w0.heap.size 5 1 v l.length (bys l) ∧ ∀ g, v.ownBlock = some g → ¬ F g

/-- A slice of bytes that came in. -/
structure Arg (w0 : World) (v : Value) (l : List Int) : Prop where
  src : Src w0 1 v l.length (bys l)
  blk : ∀ ad n c, v = .slice (some ad) n c → 0 < n → ad.block < w0.heap.size
  byt : Byt l
  len : l.length ≤ 140737488355328

theorem Rep.lt {w : World} {b : Nat} {t : WS} {F : Nat → Prop} (h : Rep w b t F) : ∀ k, F k → k < w.heap.size := by
  obtain ⟨⟨ms, ml, s0, s1, tv, M, L, bs, h⟩, _⟩ := h
  exact h.lt

theorem evo_fresh {w0 w w' : World} {F : Nat → Prop} (h : Evo (fun _ => False) w0 w) (k : Evo F w w') (hF : ∀ x, F x → w0.heap.size ≤ x) : Evo (fun _ => False) w0 w' := h.trans k (fun x hx => .inr (hF x hx))

section
variable {w0 w w' : World} {b : Nat} {t t' : WS} {F F' : Nat → Prop}
theorem St.goes (h : St w0 w b t F) (g : Goes w F b t' w' F') : St w0 w' b t' F' where
  rep := g.rep
  evo := evo_fresh h.evo g.evo h.new
  new k hk := by
    rcases g.new k hk with h1 | h1
    · exact h.new k h1
    · exact Nat.le_trans h.evo.size h1

theorem Res.mine {v : Value} {l : List Int} (h : Res w w' F' v l) (he : Evo (fun _ => False) w0 w) : Mine w0 w' F' v l := by
  obtain ⟨A, c, e, ho, hn⟩ := h
  exact ⟨A, c, e, ownsRow_base ho (fun g hg => Nat.le_trans he.size (ho.lt g hg).1), hn⟩

theorem Mine.goes {v : Value} {l : List Int} (h : Mine w0 w F v l) (g : Goes w F b t' w' F') : Mine w0 w' F' v l := by
  obtain ⟨A, c, e, ho, hn⟩ := h
  refine ⟨A, c, e, ownsRow_evo ho g.evo hn, fun x hx hf => ?_⟩
  rcases g.new x hf with h1 | h1
  · exact hn x hx h1
  · have := (ho.lt x hx).2
    omega
theorem Mine.src {v : Value} {l : List Int} (h : Mine w0 w F v l) : Src w 1 v l.length (bys l) := by
  obtain ⟨A, c, e, ho, hn⟩ := h
  exact Src.of_own ho
theorem Mine.hF {v : Value} {l : List Int} (h : Mine w0 w F v l) : ∀ ad n c, v = .slice (some ad) n c → 0 < n → ad.block < w.heap.size ∧ ¬ F ad.block := by
  obtain ⟨A, c, e, ho, hn⟩ := h
  intro ad n c' e' _
  have hb : v.ownBlock = some ad.block := by
    rw [e'] at ho ⊢
    rcases ho.2 with ⟨h1, _⟩ | ⟨g, cap, cur, h1, _⟩
    · cases h1
    · cases h1
      rfl
  exact ⟨(ho.lt _ hb).2, hn _ hb⟩
theorem Arg.ok {v : Value} {l : List Int} (h : Arg w0 v l) (hl : l.length ≤ 100000) : Okb l := ⟨hl, h.byt⟩
theorem Arg.srcAt {v : Value} {l : List Int} (h : Arg w0 v l) (he : Evo (fun _ => False) w0 w) : Src w 1 v l.length (bys l) := h.src.evo0 he (fun _ _ _ _ hf => hf)
theorem Arg.hF {v : Value} {l : List Int} (h : Arg w0 v l) (s : St w0 w b t F) : ∀ ad n c, v = .slice (some ad) n c → 0 < n → ad.block < w.heap.size ∧ ¬ F ad.block := fun ad n c e hn =>
  ⟨Nat.lt_of_lt_of_le (h.blk ad n c e hn) s.evo.size, fun hf => by
    have h1 := s.new _ hf
    have h2 := h.blk ad n c e hn
    omega⟩

theorem St.below (h : St w0 w b t F) : Below w0.heap.size w0 w := ⟨h.evo.os, h.evo.tape, h.evo.output, h.evo.size, fun k hk => h.evo.block k hk (fun hf => hf)⟩
theorem St.turn (h : St w0 w b t F) (e : Evo (fun _ => False) w w') : St w0 w' b t F := ⟨h.rep.apart e (fun _ _ hf => hf), h.evo.trans e (fun _ hf => hf.elim), h.new⟩
theorem Mine.turn {v : Value} {l : List Int} (h : Mine w0 w F v l) (e : Evo (fun _ => False) w w') : Mine w0 w' F v l := by
  obtain ⟨A, c, e1, ho, hn⟩ := h
  exact ⟨A, c, e1, ownsRow_evo ho e (fun _ _ hf => hf), hn⟩
end

/-- A row just laid by the call itself. -/
theorem src_alloc (w : World) (l : List Int) (f : Nat × Nat) : Src (w.alloc (.cells (bys l).toArray 5 f)) 1 (.slice (some ⟨w.heap.size, 0, none⟩) l.length l.length) l.length (bys l) := by
  refine ⟨_, _, rfl, Nat.le_refl _, by simp [bys], fun j u hu => ⟨_, rfl, ?_⟩⟩
  have : ((⟨w.heap.size, 0, none⟩ : Addr).add j) = ⟨w.heap.size, j, none⟩ := by unfold Addr.add; split <;> simp_all
  rw [this, cell_of_row _ _ j (bys l).toArray 5 f (heap_alloc_new w _)]
  simpa using hu
theorem hF_alloc {w0 w : World} {b : Nat} {t : WS} {F : Nat → Prop} (h : St w0 w b t F) (l : List Int) (f : Nat × Nat) : ∀ ad n c, Value.slice (some ⟨w.heap.size, 0, none⟩) l.length l.length = .slice (some ad) n c → 0 < n → ad.block < (w.alloc (.cells (bys l).toArray 5 f)).heap.size ∧ ¬ F ad.block := by
  intro ad n c e _
  cases e
  exact ⟨by simp, fun hf => by have := h.rep.lt _ hf; simp at this⟩
theorem st_alloc {w0 w : World} {b : Nat} {t : WS} {F : Nat → Prop} (h : St w0 w b t F) (o : Obj) : St w0 (w.alloc o) b t F := h.turn ((Evo.refl _ w).alloc o)
theorem mine_alloc {w0 w : World} {F : Nat → Prop} {v : Value} {l : List Int} (h : Mine w0 w F v l) (o : Obj) : Mine w0 (w.alloc o) F v l := h.turn ((Evo.refl _ w).alloc o)
theorem Mine.form {w0 w : World} {F : Nat → Prop} {v : Value} {l : List Int} {n : Nat} (h : Mine w0 w F v l) (hn : l.length = n) : ∃ A c, v = .slice A n c ∧ n ≤ c := by
  obtain ⟨A, c, e, ho, _⟩ := h
  subst e
  obtain ⟨A', c', e, hc⟩ := ownsRow_slice ho
  cases e
  exact ⟨A, c, by rw [hn], by omega⟩

/-! ### the example that the chapter fixes, as data -/
namespace Kn
def t1 : WS := (WS.new 1).write 0 1 [97, 98]
def t2 : WS := t1.read 0 1
def t3 : WS := t2.arm 1
def t4 : WS := t3.write 0 1 [99, 100]
def t5 : WS := t4.restart
theorem a1 : (WS.new 1).writeB 0 1 = true := by kernel_rfl
theorem x1 : t1.readB 0 1 = padTo [97, 98] 272 := by kernel_rfl
theorem b1 : t3.writeB 0 1 = false := by kernel_rfl
theorem d1 : t4.dead = true := by kernel_rfl
theorem y1 : t5.readB 0 1 = padTo [99, 98] 272 := by kernel_rfl
theorem l0 : (WS.new 1).trace.length < 900000 := by decide
theorem l1 : t1.trace.length < 900000 := of_decide_eq_true (by kernel_rfl)
theorem l3 : t3.trace.length < 900000 := of_decide_eq_true (by kernel_rfl)
theorem l5 : t5.trace.length < 900000 := of_decide_eq_true (by kernel_rfl)
theorem len1 : (padTo [97, 98] 272).length = 272 := by kernel_rfl
theorem len2 : (padTo [99, 98] 272).length = 272 := by kernel_rfl
theorem tk1 : (padTo [97, 98] 272).take 2 = [97, 98] := rfl
theorem tk2 : (padTo [99, 98] 272).take 2 = [99, 98] := rfl
end Kn

end Go.Proofs.Ytnndkameadlkdaa
