/- Traces in memory, at whatever row. -/
import Derived.Test.YtelljdkcgipkkaaStA
namespace Go.Proofs.Ytelljdkcgipkkaa
open Go.RowKit

def TrD.cells (d : TrD) : List Value := [.int .i64 d.kind, .int .i64 d.at_, .int .i64 d.slot, d.bv]

structure TrSrc (w : World) (v : Value) (xs : List TrD) : Prop where
  src : Src w 4 v xs.length (xs.flatMap TrD.cells)
  each : ∀ x ∈ xs, Src w 1 x.bv x.b.length (bys x.b) ∧ Byt x.b ∧ x.b.length ≤ 100000

theorem TrSrc.evo0 {w w' : World} {v : Value} {xs : List TrD} (h : TrSrc w v xs) (he : Evo (fun _ => False) w w') : TrSrc w' v xs := ⟨h.src.evo0 he, fun x hx => ⟨(h.each x hx).1.evo0 he, (h.each x hx).2⟩⟩
theorem TrSrc.form {w : World} {v : Value} {xs : List TrD} (h : TrSrc w v xs) : ∃ A c, v = .slice A xs.length c ∧ xs.length ≤ c := by
  obtain ⟨A, c, e, hc, _⟩ := h.src
  exact ⟨A, c, e, hc⟩
theorem trCells_len (ds : List TrD) : (ds.flatMap TrD.cells).length = ds.length * 4 := by
  induction ds with
  | nil => rfl
  | cons d ds ih => rw [List.flatMap_cons, List.length_append, ih, List.length_cons, Nat.add_mul]; simp [TrD.cells]; omega
theorem trCells_at (xs : List TrD) (i j : Nat) (hi : i < xs.length) (hj : j < 4) : (xs.flatMap TrD.cells)[i * 4 + j]? = (xs[i]).cells[j]? := by
  induction xs generalizing i with
  | nil => simp at hi
  | cons d ds ih =>
    rw [List.flatMap_cons]
    have hl : d.cells.length = 4 := rfl
    cases i with
    | zero => rw [List.getElem?_append_left (by omega)]; simp
    | succ i =>
      rw [List.getElem?_append_right (by omega)]
      have : (i + 1) * 4 + j - d.cells.length = i * 4 + j := by omega
      rw [this, ih i (by simpa using hi)]
      simp
theorem TrSrc.at {w : World} {A : Option Addr} {n c : Nat} {xs : List TrD} (h : TrSrc w (.slice A n c) xs) {i : Nat} {x : TrD} (hx : xs[i]? = some x) :
    ∃ b o, A = some ⟨b, o, none⟩ ∧ w.cell? ⟨b, o + i * 4, none⟩ = some (.int .i64 x.kind) ∧ w.cell? ⟨b, o + i * 4 + 1, none⟩ = some (.int .i64 x.at_) ∧ w.cell? ⟨b, o + i * 4 + 2, none⟩ = some (.int .i64 x.slot) ∧ w.cell? ⟨b, o + i * 4 + 3, none⟩ = some x.bv := by
  obtain ⟨⟨A', c', e, hnc, hl, hc⟩, h2⟩ := h
  cases e
  have hi : i < xs.length := (List.getElem?_eq_some_iff.1 hx).1
  have ex : xs[i] = x := (List.getElem?_eq_some_iff.1 hx).2
  have h0 := trCells_at xs 0 0 (by omega) (by omega)
  obtain ⟨⟨b, o, sp⟩, rfl, h0⟩ := hc (0 * 4 + 0) _ h0
  have hsp : sp = none := World.cell?_spot h0
  subst hsp
  have cell : ∀ j u, j < 4 → x.cells[j]? = some u → w.cell? ⟨b, o + i * 4 + j, none⟩ = some u := by
    intro j u hj hu
    obtain ⟨ad', e, h⟩ := hc (i * 4 + j) u (by rw [trCells_at xs i j hi hj, ex]; exact hu)
    cases e
    have e2 : ((⟨b, o, none⟩ : Addr).add (i * 4 + j)) = ⟨b, o + i * 4 + j, none⟩ := by
      unfold Addr.add
      split
      · have e3 : i * 4 = 0 := by omega
        have e4 : j = 0 := by omega
        rw [e3, e4]
        rfl
      · rw [Nat.add_assoc]
    rw [e2] at h
    exact h
  exact ⟨b, o, rfl, cell 0 _ (by omega) rfl, cell 1 _ (by omega) rfl, cell 2 _ (by omega) rfl, cell 3 _ (by omega) rfl⟩
theorem trCells_take (xs : List TrD) (k : Nat) : (xs.take k).flatMap TrD.cells = (xs.flatMap TrD.cells).take (k * 4) := by
  induction xs generalizing k with
  | nil => simp
  | cons t ts ih =>
    cases k with
    | zero => simp
    | succ k =>
      rw [List.take_succ_cons, List.flatMap_cons, List.flatMap_cons, ih k]
      have : (k + 1) * 4 = k * 4 + 1 + 1 + 1 + 1 := by omega
      rw [this]
      simp only [TrD.cells, List.cons_append, List.nil_append, List.take_succ_cons]
theorem TrSrc.take {w : World} {A : Option Addr} {n c k : Nat} {xs : List TrD} (h : TrSrc w (.slice A n c) xs) (hk : k ≤ xs.length) : TrSrc w (.slice A k c) (xs.take k) := by
  obtain ⟨⟨A', c', e, hnc, hl, hc⟩, h3⟩ := h
  cases e
  have hlk : (xs.take k).length = k := by rw [List.length_take]; omega
  refine ⟨⟨A, c, by rw [hlk], by omega, by rw [trCells_len], fun j u hu => ?_⟩, fun x hx => h3 x (List.mem_of_mem_take hx)⟩
  rw [trCells_take, List.getElem?_take] at hu
  split at hu
  · exact hc j u hu
  · cases hu

end Go.Proofs.Ytelljdkcgipkkaa
