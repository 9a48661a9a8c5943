/- The walks of package world's told, note, Lie, and of codec.Pad and sacristanref00.Same. -/
import Derived.Test.YtnndkameadlkdaaW2
import Derived.Laws.LoneSync
import Derived.Laws.BytesString
namespace Go.Proofs.Ytnndkameadlkdaa
open Go.RowKit

theorem Try.info5 : (Try.prog.info? 5).map (fun i => (i.zero, i.size, i.bytes)) = some (some (.int .u8 0), 1, 1) := by kernel_rfl
theorem Try.info52 : (Try.prog.info? 52).map (fun i => (i.zero, i.size, i.bytes)) = some (some (.agg #[.int .i64 0, .int .i64 0, .int .i64 0, .slice none 0 0]), 4, 48) := by kernel_rfl

/-! atomic.Int64 -/
theorem run_add64 (w : World) (a : Addr) (x y s : Int) (hc : w.cell? a = some (.int .i64 x)) (hz : w.frozen? a = false) (hs : IntKind.i64.wrap (x + y) = s) :
    (callFunc 58 #[.pointer (some a), .int .i64 y]).run Try.prog w = .ok (.value (.int .i64 s)) (w.setCell a (.int .i64 s)) :=
  run_call_add Try.func58 (by kernel_rfl) (by kernel_rfl) (by kernel_rfl) .i64 (by kernel_rfl) hc hz (by subst hs; simp [Op.intArith])

set_option maxRecDepth 100000 in
set_option maxHeartbeats 400000 in
theorem add_walk (b : Nat) (x : Int) (w : World) (h0 : 0 ≤ x) (h1 : x ≤ 1000000) (hc : w.cell? ⟨b, 6, none⟩ = some (.int .i64 x)) (hz : w.frozen? ⟨b, 6, none⟩ = false) :
    Calls Try.prog 48 #[.pointer (some ⟨b, 6, none⟩), .int .i64 1] w fun e w' => e = .returned (.int .i64 (x + 1)) ∧ w.setCell ⟨b, 6, none⟩ (.int .i64 (x + 1)) = w' := by
  have ha := run_add64 w ⟨b, 6, none⟩ x 1 (x + 1) hc hz (by rw [IntKind.wrap_i64]; omega)
  go_enter Try.func48, Try.ntmps48
  go_wp2
  go_ret
  exact ⟨rfl, rfl⟩

/-! note -/
set_option maxRecDepth 100000 in
set_option maxHeartbeats 400000 in
theorem note_walk (b : Nat) (kd at_ sl : Int) (bv tv : Value) (l : List Int) (n : Nat) (ts : List Value) (w : World)
    (hc : w.cell? ⟨b, 10, none⟩ = some tv) (hf : w.frozen? ⟨b, 10, none⟩ = false)
    (hs : Src w 1 bv l.length (bys l)) (hl : l.length ≤ 100000) (ht : w.ownsRow 0 52 4 tv n ts) (hn : n ≤ 1000000) (htb : ∀ g, tv.ownBlock = some g → g ≠ b) :
    Calls Try.prog 34 #[wp0 b, .int .i64 kd, .int .i64 at_, .int .i64 sl, bv] w fun e w' => e = .returned (.tuple #[]) ∧
      ∃ v1 w1 v2 w2, w1.ownsRow w.heap.size 5 1 v1 l.length (bys l) ∧ w.grownBy w1 none ∧
        w2.ownsRow 0 52 4 v2 (n + 1) (ts ++ [.int .i64 kd, .int .i64 at_, .int .i64 sl, v1]) ∧ w1.grownBy w2 tv.ownBlock ∧ (v2.ownBlock = tv.ownBlock ∨ v2.ownBlock = some (w1.heap.size + 1)) ∧ w2.setCell ⟨b, 10, none⟩ v2 = w' := by
  obtain ⟨i5, hi5, hz5, hs5, hb5⟩ := info_parts Try.info5
  obtain ⟨i52, hi52, hz52, hs52, hb52⟩ := info_parts Try.info52
  obtain ⟨A1, c1, w1, hrun1, hown1, hg1⟩ := run_append_fresh (P := Try.prog) w.drew 22 22 5 i5 _ 1 1 Try.underlying22 hi5 hz5 hs5 hb5 rfl (by omega) bv l.length (bys l) hs.drew (bys_one l) (by simp only [maxLen]; omega) (by omega)
  have hg1' : w.grownBy w1 none := ⟨hg1.os, hg1.tape, hg1.output, hg1.size, hg1.block⟩
  have ht1 : w1.ownsRow 0 52 4 tv n ts := ht.kept hg1' (by cases tv.ownBlock <;> simp)
  have hk : w1.cell? ⟨b, 10, none⟩ = some tv := hg1'.cell hc (by simp)
  have hk' : w1.frozen? ⟨b, 10, none⟩ = false := (World.frozen?_of_block (hg1'.block b (World.block_lt_of_cell? w _ hc) (by simp))).trans hf
  obtain ⟨v2, w2, hrun2, hown2, hg2, hat2⟩ := run_append_src (P := Try.prog) (w1.alloc (.cells #[.int .i64 kd, .int .i64 at_, .int .i64 sl, (.slice A1 (l.length) c1)] 52)) 0 48 48 52 i52 _ 4 48 Try.underlying48 hi52 hz52 hs52 hb52 rfl (by omega) tv n ts (ht1.alloc _) (.slice (some ⟨w1.heap.size, 0, none⟩) 1 1) 1 [.int .i64 kd, .int .i64 at_, .int .i64 sl, (.slice A1 (l.length) c1)]
    (Src.laid _ _ _ _ _ rfl) (by simp [Value.oneCell']) (by simp only [maxLen]; omega) (by omega) (by omega)
  have hg2' : w1.grownBy w2 tv.ownBlock := ((World.grownBy_alloc _ _ _)).trans hg2
  obtain ⟨A2, c2, rfl, hc2⟩ := ownsRow_slice hown2
  have hk2 : w2.cell? ⟨b, 10, none⟩ = some tv := hg2'.cell hk (fun e => htb b e.symm rfl)
  have hk2' : w2.frozen? ⟨b, 10, none⟩ = false := (World.frozen?_of_block (hg2'.block b (World.block_lt_of_cell? w1 _ hk) (fun e => htb b e.symm rfl))).trans hk'
  have hk3 : (w1.alloc (.cells #[.int .i64 kd, .int .i64 at_, .int .i64 sl, (.slice A1 l.length c1)] 52)).cell? ⟨b, 10, none⟩ = some tv := (World.cell?_alloc_lt _ _ _ (World.block_lt_of_cell? w1 _ hk)).trans hk
  have H1 := Lib.hid hrun1
  have H2 := Lib.hid hrun2
  clear hrun1 hrun2
  go_enter Try.func34, Try.ntmps34
  refine wp_region_seq_drop (fun w' => w'.cell? ⟨b, 10, none⟩ = some tv) [0, 1, 2, 3, 4, 5, 6, 7, 8, 10, 13, 14] [0, 1, 2, 3, 4, 5, 6, 7, 8, 9, 10, 11, 12, 13, 14] 15 (by kernel_rfl) rfl (by kernel_rfl) (by kernel_rfl) (by kernel_rfl) rfl (by kernel_rfl) (fun _ _ _ _ _ h => h) (hc) ?_
  dsimp only [List.dropLast]
  repeat
    apply seq_read (by rfl)
    · (simp only [List.getElem?_toArray, List.getElem?_cons_succ, List.getElem?_cons_zero]; rfl)
    · rfl
    · (intro w' hSw; (first | subst hSw | (try dsimp only at hSw)); go_simp; (try go_bits); (try with_reducible rfl))
    simp only [Act.put, List.setIfInBounds_toArray, List.set_cons_zero, List.set_cons_succ]
  apply seq_act (by rfl)
  · (simp only [List.getElem?_toArray, List.getElem?_cons_succ, List.getElem?_cons_zero]; rfl)
  · rfl
  refine wp_val (run_op_append rfl H1.out) ⟨hk, ?_⟩
  try simp only [Act.put, List.setIfInBounds_toArray, List.set_cons_zero, List.set_cons_succ]
  repeat
    apply seq_read (by rfl)
    · (simp only [List.getElem?_toArray, List.getElem?_cons_succ, List.getElem?_cons_zero]; rfl)
    · rfl
    · (intro w' hSw; (first | subst hSw | (try dsimp only at hSw)); go_simp; (try go_bits); (try with_reducible rfl))
    simp only [Act.put, List.setIfInBounds_toArray, List.set_cons_zero, List.set_cons_succ]
  apply seq_act (by rfl)
  · (simp only [List.getElem?_toArray, List.getElem?_cons_succ, List.getElem?_cons_zero]; rfl)
  · rfl
  refine wp_k (fun K hK => ?_)
  go_simp
  refine hK _ _ ⟨hk3, ?_⟩
  clear hK K
  try simp only [Act.put, List.setIfInBounds_toArray, List.set_cons_zero, List.set_cons_succ]
  apply seq_act (by rfl)
  · (simp only [List.getElem?_toArray, List.getElem?_cons_succ, List.getElem?_cons_zero]; rfl)
  · rfl
  refine wp_val (run_op_append rfl H2.out) ⟨hk2, ?_⟩
  try simp only [Act.put, List.setIfInBounds_toArray, List.set_cons_zero, List.set_cons_succ]
  repeat
    apply seq_read (by rfl)
    · (simp only [List.getElem?_toArray, List.getElem?_cons_succ, List.getElem?_cons_zero]; rfl)
    · rfl
    · (intro w' hSw; (first | subst hSw | (try dsimp only at hSw)); go_simp; (try go_bits); (try with_reducible rfl))
    simp only [Act.put, List.setIfInBounds_toArray, List.set_cons_zero, List.set_cons_succ]
  refine seq_nil ?_
  apply last_act
  · (simp only [List.getElem?_toArray, List.getElem?_cons_succ, List.getElem?_cons_zero]; rfl)
  · rfl
  refine wp_k (fun K hK => ?_)
  go_simp
  refine hK _ _ ?_
  clear hK K
  try simp only [Act.put, List.setIfInBounds_toArray, List.set_cons_zero, List.set_cons_succ]
  go_end0
  exact ⟨rfl, _, _, _, _, hown1, hg1', hown2, hg2', by simpa using hat2, rfl⟩

/-! told -/
theorem told_lookup {w : World} {ml : Nat} {L : Value → Option Value} (h : IsMap w ml (IntKey .i64) L) (r : Int) :
    (Instr.lookup 65 (.map (some ml)) (.int .i64 r) true).run Try.prog w = .ok (.tuple #[(L (.int .i64 r)).getD (.slice none 0 0), .bool (L (.int .i64 r)).isSome]) w := by
  have := IsMap.look h (keyRun_int Try.underlying3) Try.underlying65 (zero22 w) (x := .int .i64 r) ⟨r, rfl⟩ true
  simpa using this

set_option maxRecDepth 100000 in
set_option maxHeartbeats 400000 in
theorem told_walk (b ml : Nat) (r : Int) (bv xv : Value) (l : List Int) (L : Value → Option Value) (w : World) (is : Bool)
    (h0 : 0 ≤ r) (h1 : r ≤ 1000000) (h5 : w.cell? ⟨b, 5, none⟩ = some (.map (some ml))) (h6 : w.cell? ⟨b, 6, none⟩ = some (.int .i64 r)) (f6 : w.frozen? ⟨b, 6, none⟩ = false)
    (hL : IsMap w ml (IntKey .i64) L) (his : (L (.int .i64 r)).isSome = is) (hx : xv = if is then (L (.int .i64 r)).getD (.slice none 0 0) else bv)
    (hs : Src w 1 xv l.length (bys l)) (hl : l.length ≤ 100000) (hsb : ∀ ad c, xv = .slice (some ad) l.length c → ad.block ≠ b) :
    Calls Try.prog 38 #[wp0 b, bv] w fun e w' => ∃ A c, e = .returned (.slice A l.length c) ∧ w'.ownsRow w.heap.size 5 1 (.slice A l.length c) l.length (bys l) ∧ (w.setCell ⟨b, 6, none⟩ (.int .i64 (r + 1))).grownBy w' none := by
  obtain ⟨i5, hi5, hz5, hs5, hb5⟩ := info_parts Try.info5
  obtain ⟨W, HW⟩ : ∃ W, Hid (w.drew.setCell ⟨b, 6, none⟩ (.int .i64 (r + 1)) = W) := ⟨_, rfl⟩
  have hLd : IsMap w.drew ml (IntKey .i64) L := hL
  have h5' : W.cell? ⟨b, 5, none⟩ = some (.map (some ml)) := by rw [← HW.out]; exact (World.cell?_setCell_other w _ _ _ (by simp)).trans h5
  have hLW : IsMap W ml (IntKey .i64) L := by rw [← HW.out]; exact IsMap.setCell hL _ _
  have hs' : Src W 1 xv l.length (bys l) := by
    obtain ⟨A, c, rfl, hnc, hln, hc⟩ := hs
    refine ⟨A, c, rfl, hnc, hln, fun j u hu => ?_⟩
    obtain ⟨ad, rfl, hcu⟩ := hc j u hu
    refine ⟨ad, rfl, ?_⟩
    rw [← HW.out]
    exact (World.cell?_setCell_other w _ _ _ (fun e => hsb ad c rfl (by have := congrArg Addr.block e; rw [add_block] at this; exact this.symm))).trans hcu
  obtain ⟨A1, c1, w1, hrun1, hown1, hg1⟩ := run_append_fresh (P := Try.prog) W 22 22 5 i5 _ 1 1 Try.underlying22 hi5 hz5 hs5 hb5 rfl (by omega) xv l.length (bys l) hs' (bys_one l) (by simp only [maxLen]; omega) (by omega)
  have hsz : W.heap.size = w.heap.size := by rw [← HW.out]; simp [World.setCell]
  rw [hsz] at hown1
  have hlk : ∀ w', w'.cell? ⟨b, 5, none⟩ = some (.map (some ml)) ∧ IsMap w' ml (IntKey .i64) L → (Instr.lookup 65 (.map (some ml)) (.int .i64 r) true).run Try.prog w' = .ok (.tuple #[(L (.int .i64 r)).getD (.slice none 0 0), .bool is]) w' := fun w' h => by rw [← his]; exact told_lookup h.2 r
  have H1 := Lib.hid hrun1
  have Hlk := Lib.hid hlk
  have Hend : Hid ((w.setCell ⟨b, 6, none⟩ (.int .i64 (r + 1))).grownBy w1 none) := by
    rw [← HW.out] at hg1
    exact ⟨hg1.os, hg1.tape, hg1.output, hg1.size, hg1.block⟩
  generalize (L (.int .i64 r)).getD (.slice none 0 0) = lv at hx Hlk
  clear hrun1 hlk his hsz hL hs' hs hsb hg1
  cases is
  all_goals
    simp only [Bool.false_eq_true, if_false, if_true] at hx
    subst hx
    go_enter Try.func38, Try.ntmps38
    go_wp2
    refine wp_region_seq (fun w' => w'.cell? ⟨b, 5, none⟩ = some (.map (some ml)) ∧ IsMap w' ml (IntKey .i64) L) [0, 1, 2, 3, 4, 5, 6, 8, 9, 10, 11, 12, 13, 14] [0, 1, 2, 3, 4, 5, 6, 7, 8, 9, 10, 11, 12, 13, 14] (by kernel_rfl) (by kernel_rfl) (by rfl) (by kernel_rfl) (fun _ _ _ _ _ h => h) (⟨h5, hLd⟩) ?_
    repeat
      apply seq_read (by rfl)
      · (simp only [List.getElem?_toArray, List.getElem?_cons_succ, List.getElem?_cons_zero]; rfl)
      · rfl
      · (intro w' hSw; (first | subst hSw | (try dsimp only at hSw)); go_simp; (try go_bits); (try with_reducible rfl))
      simp only [Act.put, List.setIfInBounds_toArray, List.set_cons_zero, List.set_cons_succ]
    apply seq_act (by rfl)
    · (simp only [List.getElem?_toArray, List.getElem?_cons_succ, List.getElem?_cons_zero]; rfl)
    · rfl
    refine wp_k (fun K hK => ?_)
    go_simp
    refine (add_walk b r w.drew h0 h1 h6 f6).mono ?_
    rintro e w' ⟨rfl, hw⟩
    rw [HW.out] at hw; subst hw
    refine hK _ _ ⟨⟨h5', hLW⟩, ?_⟩
    clear hK K
    try simp only [Act.put, List.setIfInBounds_toArray, List.set_cons_zero, List.set_cons_succ]
    repeat
      apply seq_read (by rfl)
      · (simp only [List.getElem?_toArray, List.getElem?_cons_succ, List.getElem?_cons_zero]; rfl)
      · rfl
      · (intro w' hSw; (first | subst hSw | (try dsimp only at hSw)); go_simp; (try go_bits); (try with_reducible rfl))
      simp only [Act.put, List.setIfInBounds_toArray, List.set_cons_zero, List.set_cons_succ]
    apply seq_read (by rfl)
    · (simp only [List.getElem?_toArray, List.getElem?_cons_succ, List.getElem?_cons_zero]; rfl)
    · rfl
    · (intro w' hSw; exact run_op_lookup rfl (Hlk.out w' hSw))
    simp only [Act.put, List.setIfInBounds_toArray, List.set_cons_zero, List.set_cons_succ]
    repeat
      apply seq_read (by rfl)
      · (simp only [List.getElem?_toArray, List.getElem?_cons_succ, List.getElem?_cons_zero]; rfl)
      · rfl
      · (intro w' hSw; (first | subst hSw | (try dsimp only at hSw)); go_simp; (try go_bits); (try with_reducible rfl))
      simp only [Act.put, List.setIfInBounds_toArray, List.set_cons_zero, List.set_cons_succ]
    refine seq_nil ?_
    go_wp2_with (at_builtin; refine wpList_run rfl (run_op_append rfl H1.out) ?_)
    go_ret
    exact ⟨_, _, rfl, hown1, Hend.out⟩

end Go.Proofs.Ytnndkameadlkdaa
