/- Two rows of traces that say the same: SameTrace says so. -/
import Derived.Test.YtnndkameadlkdaaTrA
namespace Go.Proofs.Ytnndkameadlkdaa
open Go.RowKit

/-- Traces, at whatever row. -/
def TrSrc (w : World) (v : Value) (ts : List Tr) : Prop :=
  ∃ us, us.length = ts.length ∧ Src w 4 v ts.length (trCells ts us) ∧ ∀ (i : Nat) (x : Tr) (u : Value), ts[i]? = some x → us[i]? = some u → Src w 1 u x.bytes.length (bys x.bytes)

theorem TrOut.src {B : Nat} {w : World} {v : Value} {ts : List Tr} {us : List Value} (h : TrOut B w v ts us) : TrSrc w v ts := ⟨us, h.len, Src.of_own h.row, fun i x u hx hu => Src.of_own (h.own i x u hx hu)⟩
theorem TrSrc.evo0 {w w' : World} {v : Value} {ts : List Tr} (h : TrSrc w v ts) (he : Evo (fun _ => False) w w') : TrSrc w' v ts := by
  obtain ⟨us, h1, h2, h3⟩ := h
  exact ⟨us, h1, h2.evo he (fun _ _ _ hf => hf), fun i x u hx hu => (h3 i x u hx hu).evo he (fun _ _ _ hf => hf)⟩
theorem TrSrc.form {w : World} {v : Value} {ts : List Tr} (h : TrSrc w v ts) : ∃ A c, v = .slice A ts.length c ∧ ts.length ≤ c := by
  obtain ⟨us, h1, ⟨A, c, e, hc, _⟩, h3⟩ := h
  exact ⟨A, c, e, hc⟩
theorem trCells_take (ts : List Tr) (us : List Value) (k : Nat) : trCells (ts.take k) (us.take k) = (trCells ts us).take (k * 4) := by
  induction ts generalizing us k with
  | nil => simp [trCells]
  | cons t ts ih =>
    cases us with
    | nil => simp [trCells]
    | cons u us =>
      cases k with
      | zero => simp [trCells]
      | succ k =>
        have e : ∀ ts us, trCells (t :: ts) (u :: us) = [.int .i64 t.kind, .int .i64 t.at_, .int .i64 t.slot, u] ++ trCells ts us := fun ts us => by simp [trCells]
        rw [List.take_succ_cons, List.take_succ_cons, e, e, ih us k]
        have : (k + 1) * 4 = k * 4 + 1 + 1 + 1 + 1 := by omega
        rw [this]
        simp only [List.cons_append, List.nil_append, List.take_succ_cons]
theorem TrSrc.take {w : World} {A : Option Addr} {n c k : Nat} {ts : List Tr} (h : TrSrc w (.slice A n c) ts) (hk : k ≤ ts.length) : TrSrc w (.slice A k c) (ts.take k) := by
  obtain ⟨us, h1, ⟨A', c', e, hnc, hl, hc⟩, h3⟩ := h
  cases e
  have hlk : (ts.take k).length = k := by rw [List.length_take]; omega
  refine ⟨us.take k, by rw [List.length_take, List.length_take, h1], ⟨A, c, by rw [hlk], by omega, ?_, ?_⟩, ?_⟩
  · rw [trCells_len _ _ (by rw [List.length_take, List.length_take, h1])]
  · intro j u hu
    rw [trCells_take, List.getElem?_take] at hu
    split at hu
    · exact hc j u hu
    · cases hu
  · intro i x u hx hu
    rw [List.getElem?_take] at hx hu
    split at hx
    · rename_i hi
      rw [if_pos hi] at hu
      exact h3 i x u hx hu
    · cases hx

theorem TrSrc.at {w : World} {A : Option Addr} {n c : Nat} {ts : List Tr} (h : TrSrc w (.slice A n c) ts) {k : Nat} {x : Tr} (hx : ts[k]? = some x) :
    ∃ b o u, A = some ⟨b, o, none⟩ ∧ w.cell? ⟨b, o + k * 4, none⟩ = some (.int .i64 x.kind) ∧ w.cell? ⟨b, o + k * 4 + 1, none⟩ = some (.int .i64 x.at_) ∧ w.cell? ⟨b, o + k * 4 + 2, none⟩ = some (.int .i64 x.slot) ∧
      w.cell? ⟨b, o + k * 4 + 3, none⟩ = some u ∧ Src w 1 u x.bytes.length (bys x.bytes) := by
  obtain ⟨us, h1, ⟨A', c', e, hnc, hl, hc⟩, h3⟩ := h
  cases e
  have hk : k < ts.length := (List.getElem?_eq_some_iff.1 hx).1
  have ex : ts[k] = x := (List.getElem?_eq_some_iff.1 hx).2
  have h0 := trCells_at ts us h1 0 0 (by omega) (by omega)
  obtain ⟨⟨b, o, sp⟩, rfl, h0⟩ := hc (0 * 4 + 0) _ h0
  have hsp : sp = none := World.cell?_spot h0
  subst hsp
  have cell : ∀ j u, j < 4 → ([.int .i64 (ts[k]).kind, .int .i64 (ts[k]).at_, .int .i64 (ts[k]).slot, us[k]'(by omega)] : List Value)[j]? = some u → w.cell? ⟨b, o + k * 4 + j, none⟩ = some u := by
    intro j u hj hu
    obtain ⟨ad', e, h⟩ := hc (k * 4 + j) u (by rw [trCells_at ts us h1 k j hk hj]; exact hu)
    cases e
    have e2 : ((⟨b, o, none⟩ : Addr).add (k * 4 + j)) = ⟨b, o + k * 4 + j, none⟩ := by
      unfold Addr.add
      split
      · have e3 : k * 4 = 0 := by omega
        have e4 : j = 0 := by omega
        rw [e3, e4]
        rfl
      · rw [Nat.add_assoc]
    rw [e2] at h
    exact h
  rw [ex] at cell
  exact ⟨b, o, us[k]'(by omega), rfl, cell 0 _ (by omega) rfl, cell 1 _ (by omega) rfl, cell 2 _ (by omega) rfl, cell 3 _ (by omega) rfl, h3 k x _ hx (List.getElem?_eq_getElem (by omega))⟩

set_option maxRecDepth 100000 in
set_option maxHeartbeats 400000 in
theorem sameTrace_walk (w : World) (v1 v2 : Value) (ts : List Tr) (h1 : TrSrc w v1 ts) (h2 : TrSrc w v2 ts) (hn : ts.length ≤ 1000000) :
    Calls Try.prog 27 #[v1, v2] w fun e w' => e = .returned (.bool true) ∧ Evo (fun _ => False) w w' := by
  obtain ⟨A1, c1, rfl, hc1⟩ := h1.form
  obtain ⟨A2, c2, rfl, hc2⟩ := h2.form
  go_enter Try.func27, Try.ntmps27
  go_wp2_with fail
  go_loopg [5] ts.length (fun g i wx => ∃ k : Nat, k ≤ ts.length ∧ g = ts.length - k ∧ i = .int .i64 k ∧ Evo (fun _ => False) w wx)
  case atStart => exact ⟨0, by omega, rfl, rfl, Evo.refl _ w⟩
  case round =>
    obtain ⟨k, hk, rfl, rfl, hev⟩ := hrel
    by_cases hkl : k < ts.length
    · have hkz : (k : Int) < (ts.length : Int) := by omega
      obtain ⟨x, hx⟩ : ∃ x, ts[k]? = some x := ⟨_, List.getElem?_eq_getElem hkl⟩
      obtain ⟨b1, o1, u1, rfl, a0, a1, a2, a3, sa⟩ := (h1.evo0 hev).at hx
      obtain ⟨b2, o2, u2, rfl, d0, d1, d2, d3, ds⟩ := (h2.evo0 hev).at hx
      have k1 := run_bytes_string wr u1 x.bytes sa
      have k2 := run_bytes_string wr u2 x.bytes ds
      have k1' := run_bytes_string wr.drew u1 x.bytes sa.drew
      have k2' := run_bytes_string wr.drew u2 x.bytes ds.drew
      clear h1 h2 sa ds
      go_wp2_with fail
      refine wp_region_seq (fun w' => w' = wr.drew) [0, 1, 2, 3, 4, 5, 6, 7, 8, 9, 10, 11, 12, 13, 14, 15, 16, 17, 18, 19, 20, 21, 22, 23, 24, 25, 26, 27, 28, 29, 30, 31, 32, 33, 34, 35, 36, 37, 38, 39, 40, 41, 42, 43, 44, 45, 46, 47, 48, 49, 50, 51] [0, 1, 2, 3, 4, 5, 6, 7, 8, 9, 10, 11, 12, 13, 14, 15, 16, 17, 18, 19, 20, 21, 22, 23, 24, 25, 26, 27, 28, 29, 30, 31, 32, 33, 34, 35, 36, 37, 38, 39, 40, 41, 42, 43, 44, 45, 46, 47, 48, 49, 50, 51] (by kernel_rfl) (by kernel_rfl) (by rfl) (by kernel_rfl) (fun _ _ _ _ _ h => h) (rfl) ?_
      repeat
        apply seq_read (by rfl)
        · (simp only [List.getElem?_toArray, List.getElem?_cons_succ, List.getElem?_cons_zero]; rfl)
        · rfl
        · (intro w' hSw; (first | subst hSw | (try dsimp only at hSw)); go_simp; (try go_bits); (try with_reducible rfl))
        simp only [Act.put, List.setIfInBounds_toArray, List.set_cons_zero, List.set_cons_succ]
      refine seq_nil ?_
      go_wp2
      go_roundg (ts.length - (k + 1))
      case measure => omega
      case rel => exact ⟨k + 1, by omega, rfl, by first | rfl | simp, hev.drew⟩
    · obtain rfl : k = ts.length := by omega
      go_wp2
      go_ret
      exact ⟨rfl, hev⟩

end Go.Proofs.Ytnndkameadlkdaa
