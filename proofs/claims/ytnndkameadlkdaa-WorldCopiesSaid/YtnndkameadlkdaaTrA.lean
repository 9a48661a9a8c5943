/- What a world's Trace tells: a row of its own, the bytes copied. -/
import Derived.Test.YtnndkameadlkdaaLawE
import Derived.Deep.LoopGhost
namespace Go.Proofs.Ytnndkameadlkdaa
open Go.RowKit

theorem trCells_at (ts : List Tr) (us : List Value) (h : us.length = ts.length) (i j : Nat) (hi : i < ts.length) (hj : j < 4) :
    (trCells ts us)[i * 4 + j]? = ([.int .i64 (ts[i]).kind, .int .i64 (ts[i]).at_, .int .i64 (ts[i]).slot, us[i]'(by omega)] : List Value)[j]? := by
  induction ts generalizing us i with
  | nil => simp at hi
  | cons t ts ih =>
    cases us with
    | nil => simp at h
    | cons u us =>
      have e : trCells (t :: ts) (u :: us) = [.int .i64 t.kind, .int .i64 t.at_, .int .i64 t.slot, u] ++ trCells ts us := by simp [trCells]
      rw [e]
      cases i with
      | zero => rw [List.getElem?_append_left (by simp; omega)]; simp
      | succ i =>
        rw [List.getElem?_append_right (by simp; omega)]
        have : (i + 1) * 4 + j - ([.int .i64 t.kind, .int .i64 t.at_, .int .i64 t.slot, u] : List Value).length = i * 4 + j := by simp; omega
        rw [this, ih us (by simpa using h) i (by simpa using hi)]
        simp
theorem trCells_len (ts : List Tr) (us : List Value) (h : us.length = ts.length) : (trCells ts us).length = ts.length * 4 := by
  induction ts generalizing us with
  | nil => cases us <;> simp_all [trCells]
  | cons t ts ih =>
    cases us with
    | nil => simp at h
    | cons u us =>
      have e : trCells (t :: ts) (u :: us) = [.int .i64 t.kind, .int .i64 t.at_, .int .i64 t.slot, u] ++ trCells ts us := by simp [trCells]
      rw [e, List.length_append, ih us (by simpa using h)]
      simp
      omega
theorem trCells_set (ts : List Tr) (us : List Value) (h : us.length = ts.length) (k : Nat) (hk : k < ts.length) (v : Value) : trCells ts (us.set k v) = (trCells ts us).set (k * 4 + 3) v := by
  apply List.ext_getElem?
  intro m
  have hl1 := trCells_len ts us h
  have hl2 := trCells_len ts (us.set k v) (by simpa using h)
  by_cases hm : m < ts.length * 4
  · have hdiv : m = (m / 4) * 4 + m % 4 := by omega
    have hd : m / 4 < ts.length := by omega
    rw [List.getElem?_set, hdiv, trCells_at ts (us.set k v) (by simpa using h) (m / 4) (m % 4) hd (by omega), trCells_at ts us h (m / 4) (m % 4) hd (by omega), ← hdiv]
    by_cases hmk : k * 4 + 3 = m
    · have e1 : m / 4 = k := by omega
      have e2 : m % 4 = 3 := by omega
      rw [if_pos hmk, if_pos (by omega)]
      simp only [e1, e2]
      simp
    · rw [if_neg hmk]
      by_cases e3 : m % 4 = 3
      · have e1 : ¬ k = m / 4 := by omega
        simp only [e3, List.getElem?_cons_succ, List.getElem?_cons_zero, List.getElem_set, if_neg e1]
      · have : m % 4 = 0 ∨ m % 4 = 1 ∨ m % 4 = 2 := by omega
        rcases this with e | e | e <;> simp [e]
  · rw [List.getElem?_eq_none (by omega), List.getElem?_eq_none (by rw [List.length_set]; omega)]

theorem row_set {w : World} {B g n cap : Nat} {ts : List Tr} {us : List Value} (h : w.ownsRow B 52 4 (.slice (some ⟨g, 0, none⟩) n cap) n (trCells ts us)) (hn : n = ts.length) (hu : us.length = ts.length) {k : Nat} (hk : k < n) (v : Value) :
    (w.setCell ⟨g, k * 4 + 3, none⟩ v).ownsRow B 52 4 (.slice (some ⟨g, 0, none⟩) n cap) n (trCells ts (us.set k v)) := by
  subst hn
  rw [trCells_set ts us hu k hk]
  refine ⟨by rw [List.length_set]; exact h.1, ?_⟩
  rcases h.2 with ⟨e, _⟩ | ⟨g', cap', cur, e, hb, hg, hnc, hm, hs, ht⟩
  · cases e
  · cases e
    refine .inr ⟨g, cap, cur.setIfInBounds (k * 4 + 3) v, rfl, hb, blk_set hg _ v, hnc, hm, by simpa using hs, ?_⟩
    rw [Array.toList_setIfInBounds, List.take_set, ht]
theorem row_cell {w : World} {B g n cap : Nat} {ts : List Tr} {us : List Value} (h : w.ownsRow B 52 4 (.slice (some ⟨g, 0, none⟩) n cap) n (trCells ts us)) (hn : n = ts.length) (hu : us.length = ts.length) {k j : Nat} (hk : k < n) (hj : j < 4) :
    w.cell? ⟨g, k * 4 + j, none⟩ = ([.int .i64 (ts[k]'(by omega)).kind, .int .i64 (ts[k]'(by omega)).at_, .int .i64 (ts[k]'(by omega)).slot, us[k]'(by omega)] : List Value)[j]? ∧ w.frozen? ⟨g, k * 4 + j, none⟩ = false := by
  subst hn
  rcases h.2 with ⟨e, _⟩ | ⟨g', cap', cur, e, hb, hg, hnc, hm, hs, ht⟩
  · cases e
  · cases e
    refine ⟨?_, blk_frozen hg _⟩
    rw [blk_cell hg, ← trCells_at ts us hu k j hk hj, ← ht, List.getElem?_take, if_pos (by omega), Array.getElem?_toList]

theorem ownsRow_base' {w : World} {B e size n g cap : Nat} {xs : List Value} (h : w.ownsRow B e size (.slice (some ⟨g, 0, none⟩) n cap) n xs) : B ≤ g := (h.lt g rfl).1

section
variable {w : World} {b : Nat} {t : WS} {F : Nat → Prop}

/-- What Trace tells. -/
structure TrOut (B : Nat) (w : World) (v : Value) (ts : List Tr) (us : List Value) : Prop where
  row : w.ownsRow B 52 4 v ts.length (trCells ts us)
  len : us.length = ts.length
  own : ∀ (i : Nat) (x : Tr) (u : Value), ts[i]? = some x → us[i]? = some u → w.ownsRow B 5 1 u x.bytes.length (bys x.bytes)

set_option maxRecDepth 100000 in
set_option maxHeartbeats 400000 in
theorem R_trace (hR : Rep w b t F) : Calls Try.prog 26 #[wp0 b] w fun e w' => ∃ v us, e = .returned v ∧ TrOut w.heap.size w' v t.trace us ∧ Evo (fun _ => False) w w' := by
  obtain ⟨⟨ms, ml, s0, s1, tv, M, L, bs, h⟩, hrd⟩ := hR
  obtain ⟨i5, hi5, hz5, hs5, hb5⟩ := info_parts Try.info5
  obtain ⟨i52, hi52, hz52, hs52, hb52⟩ := info_parts Try.info52
  have hsm := h.small
  have hst : Src w 4 tv t.trace.length (trCells t.trace bs) := Src.of_own h.trace.row
  have hone : ∀ u ∈ trCells t.trace bs, u.oneCell' = true := by
    intro u hu
    simp only [trCells, List.mem_flatMap] at hu
    obtain ⟨⟨x, y⟩, hxy, hu⟩ := hu
    obtain ⟨i, hi, hxi⟩ := List.mem_iff_getElem.1 hxy
    have hi' : i < t.trace.length := by simp at hi; omega
    have hib : i < bs.length := by simp at hi; omega
    simp only [List.getElem_zip, Prod.mk.injEq] at hxi
    have ho := (h.trace.own i x y (by rw [← hxi.1]; exact List.getElem?_eq_getElem hi') (by rw [← hxi.2]; exact List.getElem?_eq_getElem hib)).1
    obtain ⟨A, c, e, _⟩ := ownsRow_slice ho
    simp only [List.mem_cons, List.not_mem_nil, or_false] at hu
    rcases hu with rfl | rfl | rfl | rfl
    · rfl
    · rfl
    · rfl
    · rw [e]; rfl
  obtain ⟨A1, c1, w1, hrun1, hown1, hg1⟩ := run_append_fresh (P := Try.prog) w 48 48 52 i52 _ 4 _ Try.underlying48 hi52 hz52 hs52 hb52 rfl (by omega) tv t.trace.length (trCells t.trace bs) hst hone (by simp only [maxLen]; omega) (by omega)
  have hev1 : Evo (fun _ => False) w w1 := (Evo.refl _ w).grown hg1 (by simp)
  have c10 := blk_cell h.cell 10
  simp only [wcells] at c10
  have G1 := Lib.hid hrun1
  obtain ⟨At, ct, rfl, _⟩ := ownsRow_slice h.trace.row
  have hsrcs : ∀ (i : Nat) (x : Tr) (u : Value), t.trace[i]? = some x → bs[i]? = some u → Src w 1 u x.bytes.length (bys x.bytes) ∧ Okb x.bytes := fun i x u hx hu => ⟨(h.trace.own i x u hx hu).src, h.trace.okb x (List.mem_of_getElem? hx)⟩
  have hbl := h.trace.len
  clear hrun1 h hst hone hg1
  generalize t.trace = ts at *
  go_enter Try.func26, Try.ntmps26
  go_wp2_with (at_builtin; refine wpList_run rfl (run_op_append rfl G1.out) ?_)
  go_loopg [15, 4, 5] ts.length (fun g j i p wx => ∃ k : Nat, k ≤ ts.length ∧ g = ts.length - k ∧ j = .int .i64 k ∧ ∃ us, us.length = ts.length ∧ Evo (fun _ => False) w wx ∧
    wx.ownsRow w.heap.size 52 4 (.slice A1 ts.length c1) ts.length (trCells ts us) ∧
    (∀ (i : Nat) (x : Tr) (u : Value), i < k → ts[i]? = some x → us[i]? = some u → wx.ownsRow w.heap.size 5 1 u x.bytes.length (bys x.bytes)) ∧
    (∀ (i : Nat) (x : Tr) (u : Value), k ≤ i → ts[i]? = some x → us[i]? = some u → Src w 1 u x.bytes.length (bys x.bytes) ∧ Okb x.bytes))
  case atStart => exact ⟨0, by omega, rfl, rfl, bs, hbl, hev1, hown1, fun i x u hi => absurd hi (by omega), fun i x u _ => hsrcs i x u⟩
  case round =>
    obtain ⟨k, hk, rfl, rfl, us, hul, hev, hrow, hnew, hold⟩ := hrel
    by_cases hkl : k < ts.length
    · have hkz : (k : Int) < (ts.length : Int) := by omega
      obtain ⟨gr, rfl⟩ : ∃ gr, A1 = some ⟨gr, 0, none⟩ := by
        rcases hrow.2 with ⟨e, h0⟩ | ⟨g, cap, cur, e, _⟩
        · omega
        · cases e; exact ⟨g, rfl⟩
      obtain ⟨x, hx⟩ : ∃ x, ts[k]? = some x := ⟨_, List.getElem?_eq_getElem hkl⟩
      obtain ⟨u, hu⟩ : ∃ u, us[k]? = some u := ⟨_, List.getElem?_eq_getElem (by omega)⟩
      have ex : ts[k] = x := by rw [List.getElem?_eq_getElem hkl] at hx; exact Option.some.inj hx
      have eu : us[k]'(by omega) = u := by rw [List.getElem?_eq_getElem (by omega)] at hu; exact Option.some.inj hu
      obtain ⟨hsu, hob⟩ := hold k x u (Nat.le_refl _) hx hu
      have hobl := hob.1
      obtain ⟨Au, cu, rfl, hcu⟩ : ∃ A c, u = .slice A x.bytes.length c ∧ x.bytes.length ≤ c := by obtain ⟨A, c, e, h, _⟩ := hsu; exact ⟨A, c, e, h⟩
      have d0 : wr.cell? ⟨gr, k * 4, none⟩ = some (.int .i64 x.kind) := by rw [← ex]; exact (row_cell hrow rfl hul (j := 0) hkl (by omega)).1
      have d1 : wr.cell? ⟨gr, k * 4 + 1, none⟩ = some (.int .i64 x.at_) := by rw [← ex]; exact (row_cell hrow rfl hul (j := 1) hkl (by omega)).1
      have d2 : wr.cell? ⟨gr, k * 4 + 2, none⟩ = some (.int .i64 x.slot) := by rw [← ex]; exact (row_cell hrow rfl hul (j := 2) hkl (by omega)).1
      have d3 : wr.cell? ⟨gr, k * 4 + 3, none⟩ = some (.slice Au x.bytes.length cu) := by rw [← eu]; exact (row_cell hrow rfl hul (j := 3) hkl (by omega)).1
      have d4 : wr.frozen? ⟨gr, k * 4 + 3, none⟩ = false := (row_cell hrow rfl hul (j := 3) hkl (by omega)).2
      have hgr : gr < wr.heap.size := (hrow.lt gr rfl).2
      obtain ⟨W1, hW1⟩ : ∃ W1, W1 = wr.alloc (.cells #[.int .i64 x.kind, .int .i64 x.at_, .int .i64 x.slot, .slice Au x.bytes.length cu] 52) := ⟨_, rfl⟩
      have hevW : Evo (fun _ => False) wr W1 := by rw [hW1]; exact (Evo.refl _ wr).alloc _
      have hsW : Src W1 1 (.slice Au x.bytes.length cu) x.bytes.length (bys x.bytes) := (hsu.evo0 hev (fun _ _ _ _ hf => hf)).evo0 hevW (fun _ _ _ _ hf => hf)
      obtain ⟨A4, c4, w4, hrun4, hown4, hg4⟩ := run_append_fresh (P := Try.prog) W1 22 22 5 i5 _ 1 1 Try.underlying22 hi5 hz5 hs5 hb5 rfl (by omega) _ x.bytes.length _ hsW (bys_one _) (by simp only [maxLen]; omega) (by omega)
      have hev4 : Evo (fun _ => False) wr w4 := hevW.grown hg4 (by simp)
      have hrow4 := ownsRow_evo hrow hev4 (fun _ _ hf => hf)
      have hgk : ∃ c f, w4.heap[gr]? = some (.cells c 52 f) := ownsRow_kind hrow4 gr rfl
      have f4 : w4.frozen? ⟨gr, k * 4 + 3, none⟩ = false := (row_cell hrow4 rfl hul (j := 3) hkl (by omega)).2
      have n4 : w4.cell? ⟨gr, k * 4 + 3, none⟩ = some (.slice Au x.bytes.length cu) := by rw [← eu]; exact (row_cell hrow4 rfl hul (j := 3) hkl (by omega)).1
      have G2 := Lib.hid hrun4
      rw [hW1] at G2
      clear G1 hrun4
      have hgrn : gr ≠ wr.heap.size := by omega
      have HN := Lib.hid hnew
      have HO := Lib.hid hold
      clear hnew hold
      go_wp2_with (at_builtin; refine wpList_run rfl (run_op_append rfl G2.out) ?_)
      go_roundg (ts.length - (k + 1))
      case measure => omega
      case rel =>
        have hrow5 := row_set hrow4 rfl hul hkl (.slice A4 x.bytes.length c4)
        obtain ⟨cs', f', hgk⟩ := hgk
        have S5 : SameKind 5 w4 (w4.setCell ⟨gr, k * 4 + 3, none⟩ (.slice A4 x.bytes.length c4)) := fun k' c f hk' => by
          have hne : k' ≠ gr := by
            rintro rfl
            rw [hgk] at hk'
            injection hk' with hk'
            injection hk' with _ h2
            cases h2
          simp only [World.setCell, Array.getElem?_modify]
          rw [if_neg (fun e => hne e.symm)]
          exact hk'
        have hev5 : Evo (fun _ => False) w (w4.setCell ⟨gr, k * 4 + 3, none⟩ (.slice A4 x.bytes.length c4)) := (hev.two hev4).setCell (.inr (ownsRow_base' hrow)) _
        refine ⟨k + 1, by omega, rfl, by first | rfl | simp, us.set k (.slice A4 x.bytes.length c4), by simpa using hul, hev5, hrow5, ?_, ?_⟩
        · intro i x' u' hi hx' hu'
          by_cases hik : i = k
          · subst hik
            rw [hx] at hx'
            cases hx'
            rw [List.getElem?_set_self (by omega)] at hu'
            cases hu'
            exact ownsRow_base (ownsRow_same hown4 S5) (fun g hg => by have := (hown4.lt g hg).1; have := hev.size; have := hevW.size; omega)
          · rw [List.getElem?_set_ne (fun e => hik e.symm)] at hu'
            exact ownsRow_same (ownsRow_evo (HN.out i x' u' (by omega) hx' hu') hev4 (fun _ _ hf => hf)) S5
        · intro i x' u' hi hx' hu'
          rw [List.getElem?_set_ne (by omega)] at hu'
          exact HO.out i x' u' (by omega) hx' hu'
    · obtain rfl : k = ts.length := by omega
      go_wp2
      go_ret
      exact ⟨_, us, rfl, ⟨hrow, hul, fun i x u hx hu => hnew i x u (List.getElem?_eq_some_iff.1 hx).1 hx hu⟩, hev⟩
end

end Go.Proofs.Ytnndkameadlkdaa
