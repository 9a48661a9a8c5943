/- Items as data; what 'of' makes of one; the multiset difference. -/
import Derived.Test.YtelljdkcgipkkaaKey
import Derived.Deep.LoopGhost
namespace Go.Proofs.Ytelljdkcgipkkaa
open Go.RowKit

theorem blk_cell {w : World} {b : Nat} {t : TypeId} {cs : Array Value} (h : w.heap[b]? = some (.cells cs t (0, 0))) (i : Nat) : w.cell? ⟨b, i, none⟩ = cs[i]? := cell_of_row w b i cs t (0, 0) h
theorem blk_frozen {w : World} {b : Nat} {t : TypeId} {cs : Array Value} (h : w.heap[b]? = some (.cells cs t (0, 0))) (i : Nat) : w.frozen? ⟨b, i, none⟩ = false := by simp [World.frozen?, h]

theorem ownsRow_evo {w w' : World} {F : Nat → Prop} {base : Nat} {e : TypeId} {size n : Nat} {v : Value} {xs : List Value} (h : w.ownsRow base e size v n xs) (he : Evo F w w') (hF : ∀ g, v.ownBlock = some g → ¬ F g) : w'.ownsRow base e size v n xs := by
  refine ⟨h.1, ?_⟩
  rcases h.2 with h2 | ⟨g, cap, cur, rfl, hb, hg, r⟩
  · exact Or.inl h2
  · exact Or.inr ⟨g, cap, cur, rfl, hb, (he.block g (heap_lt hg) (hF g rfl)).trans hg, r⟩

structure ItD where
  at_ : Int
  bv : Value
  b : List Int
def ItD.cells (d : ItD) : List Value := [.int .i64 d.at_, d.bv]
def ItD.key (d : ItD) : Int × List Int := (d.at_, d.b)

/-- Items, at whatever row. -/
structure ItSrc (w : World) (v : Value) (xs : List ItD) : Prop where
  src : Src w 2 v xs.length (xs.flatMap ItD.cells)
  each : ∀ x ∈ xs, Src w 1 x.bv x.b.length (bys x.b) ∧ Byt x.b ∧ x.b.length ≤ 100000

theorem Src.evo0 {w w' : World} {size n : Nat} {v : Value} {xs : List Value} (h : Src w size v n xs) (he : Evo (fun _ => False) w w') : Src w' size v n xs := h.evo he (fun _ _ _ hf => hf)
theorem Evo.two {a b c : World} (h : Evo (fun _ => False) a b) (k : Evo (fun _ => False) b c) : Evo (fun _ => False) a c := h.trans k (fun _ hf => hf.elim)
theorem ItSrc.evo0 {w w' : World} {v : Value} {xs : List ItD} (h : ItSrc w v xs) (he : Evo (fun _ => False) w w') : ItSrc w' v xs := ⟨h.src.evo0 he, fun x hx => ⟨(h.each x hx).1.evo0 he, (h.each x hx).2⟩⟩
theorem ItSrc.form {w : World} {v : Value} {xs : List ItD} (h : ItSrc w v xs) : ∃ A c, v = .slice A xs.length c ∧ xs.length ≤ c := by
  obtain ⟨A, c, e, hc, _⟩ := h.src
  exact ⟨A, c, e, hc⟩

theorem itCells_at (xs : List ItD) (i j : Nat) (hi : i < xs.length) (hj : j < 2) : (xs.flatMap ItD.cells)[i * 2 + j]? = (xs[i]).cells[j]? := by
  induction xs generalizing i with
  | nil => simp at hi
  | cons d ds ih =>
    rw [List.flatMap_cons]
    have hl : d.cells.length = 2 := rfl
    cases i with
    | zero => rw [List.getElem?_append_left (by omega)]; simp
    | succ i =>
      rw [List.getElem?_append_right (by omega)]
      have : (i + 1) * 2 + j - d.cells.length = i * 2 + j := by omega
      rw [this, ih i (by simpa using hi)]
      simp

theorem ItSrc.at {w : World} {A : Option Addr} {n c : Nat} {xs : List ItD} (h : ItSrc w (.slice A n c) xs) {i : Nat} {x : ItD} (hx : xs[i]? = some x) :
    ∃ b o, A = some ⟨b, o, none⟩ ∧ w.cell? ⟨b, o + i * 2, none⟩ = some (.int .i64 x.at_) ∧ w.cell? ⟨b, o + i * 2 + 1, none⟩ = some x.bv := by
  obtain ⟨⟨A', c', e, hnc, hl, hc⟩, h2⟩ := h
  cases e
  have hi : i < xs.length := (List.getElem?_eq_some_iff.1 hx).1
  have ex : xs[i] = x := (List.getElem?_eq_some_iff.1 hx).2
  have h0 := itCells_at xs 0 0 (by omega) (by omega)
  obtain ⟨⟨b, o, sp⟩, rfl, h0⟩ := hc (0 * 2 + 0) _ h0
  have hsp : sp = none := World.cell?_spot h0
  subst hsp
  have cell : ∀ j u, j < 2 → x.cells[j]? = some u → w.cell? ⟨b, o + i * 2 + j, none⟩ = some u := by
    intro j u hj hu
    obtain ⟨ad', e, h⟩ := hc (i * 2 + j) u (by rw [itCells_at xs i j hi hj, ex]; exact hu)
    cases e
    have e2 : ((⟨b, o, none⟩ : Addr).add (i * 2 + j)) = ⟨b, o + i * 2 + j, none⟩ := by
      unfold Addr.add
      split
      · have e3 : i * 2 = 0 := by omega
        have e4 : j = 0 := by omega
        rw [e3, e4]
        rfl
      · rw [Nat.add_assoc]
    rw [e2] at h
    exact h
  exact ⟨b, o, rfl, cell 0 _ (by omega) rfl, cell 1 _ (by omega) rfl⟩

/-! ### the difference, as data -/
abbrev IKey := Int × List Int
def minusF : List IKey → (IKey → Nat) → List IKey
  | [], _ => []
  | x :: r, m => if 0 < m x then minusF r (fun y => if y = x then m x - 1 else m y) else x :: minusF r m
def minusL (a b : List IKey) : List IKey := minusF a (fun k => b.count k)

theorem minusF_count (a : List IKey) (m : IKey → Nat) (k : IKey) : (minusF a m).count k = a.count k - m k := by
  induction a generalizing m with
  | nil => simp [minusF]
  | cons x r ih =>
    unfold minusF
    split
    · rw [ih, List.count_cons]
      by_cases h : k = x
      · subst h; simp; omega
      · have : ¬ x = k := fun e => h e.symm
        simp [h, this]
    · rw [List.count_cons, List.count_cons, ih]
      by_cases h : x = k
      · subst h; simp; omega
      · simp [h]
theorem minusL_count (a b : List IKey) (k : IKey) : (minusL a b).count k = a.count k - b.count k := minusF_count _ _ _
theorem len_of_count {a b : List IKey} (h : ∀ k, a.count k = b.count k) : a.length = b.length := (List.perm_iff_count.2 h).length_eq
theorem minus_parts (a b : List IKey) : (minusL a b).length + (minusL a (minusL a b)).length = a.length := by
  rw [← List.length_append]
  refine len_of_count fun k => ?_
  rw [List.count_append, minusL_count, minusL_count, minusL_count]
  omega
theorem minus_other (a b : List IKey) : (minusL a (minusL a b)).length + (minusL b a).length = b.length := by
  rw [← List.length_append]
  refine len_of_count fun k => ?_
  rw [List.count_append, minusL_count, minusL_count, minusL_count]
  omega
theorem minus_self (a : List IKey) : (minusL a a).length = 0 := by
  have : (minusL a a).length = ([] : List IKey).length := len_of_count fun k => by rw [minusL_count]; simp
  simpa using this
theorem minus_nil (a : List IKey) : (minusL a []).length = a.length := len_of_count fun k => by rw [minusL_count]; simp

set_option maxRecDepth 100000 in
set_option maxHeartbeats 400000 in
theorem of_walk (w : World) (a : Int) (bv : Value) (l : List Int) (h : Src w 1 bv l.length (bys l)) :
    Calls Try.prog 11 #[.agg #[.int .i64 a, bv]] w fun e w' => e = .returned (ik a l) ∧ Evo (fun _ => False) w w' := by
  have hev : Evo (fun _ => False) w ((w.alloc (.cells #[.int .i64 a, bv] 26)).alloc (.cells #[.int .i64 0, .string { data := #[] }] 36)) := ((Evo.refl _ w).alloc _).alloc _
  have hc := run_bytes_string _ bv l (h.evo0 hev)
  unfold ik
  go_enter Try.func11, Try.ntmps11
  go_wp2
  (try simp only [Exit.inBlock, Exit.then])
  refine bodyPost_ret (by simp [results, Try.results11, go_sem]; try rfl) rfl ?_
  refine ⟨rfl, ?_⟩
  first
  | exact ((Evo.refl _ w).alloc _).alloc _
  | exact (hev.setCell (.inr (by simp)) _).setCell (.inr (by simp)) _

end Go.Proofs.Ytelljdkcgipkkaa
