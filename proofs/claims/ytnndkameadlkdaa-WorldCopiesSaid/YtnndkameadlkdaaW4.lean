/- The walks of codec.Pad, of sacristanref00.Same and of World.Lie. -/
import Derived.Test.YtnndkameadlkdaaW3
namespace Go.Proofs.Ytnndkameadlkdaa
open Go.RowKit

/-! Pad -/
def padTo (l : List Int) (n : Nat) : List Int := l ++ List.replicate (n - l.length) 0
theorem bys_pad (l : List Int) (n : Nat) : bys (padTo l n) = bys l ++ List.replicate (n - l.length) (.int .u8 0) := by
  simp [padTo, bys]

set_option maxRecDepth 100000 in
set_option maxHeartbeats 400000 in
theorem pad_walk (bv : Value) (l : List Int) (n : Nat) (w : World) (hs : Src w 1 bv l.length (bys l)) (hl : l.length ≤ 100000) (hn : n ≤ 100000) :
    Calls Try.prog 35 #[bv, .int .i64 (n : Int)] w fun e w' => ∃ A c, e = .returned (.slice A (padTo l n).length c) ∧ w'.ownsRow w.heap.size 5 1 (.slice A (padTo l n).length c) (padTo l n).length (bys (padTo l n)) ∧ w.grownBy w' none := by
  obtain ⟨i5, hi5, hz5, hs5, hb5⟩ := info_parts Try.info5
  obtain ⟨A1, c1, w1, hrun1, hown1, hg1⟩ := run_append_fresh (P := Try.prog) w 22 22 5 i5 _ 1 1 Try.underlying22 hi5 hz5 hs5 hb5 rfl (by omega) bv l.length (bys l) hs (bys_one l) (by simp only [maxLen]; omega) (by omega)
  obtain ⟨v2, w2, hrun2, hown2, hg2, hat2⟩ := run_append_zeros (P := Try.prog) w1 w.heap.size 22 3 22 5 i5 _ 1 .i64 .i64 Try.underlying22 Try.underlying3 hi5 hz5 hs5 hb5 rfl rfl (.slice A1 l.length c1) l.length (bys l) hown1 (n - l.length) (by simp only [maxLen]; omega) (by omega) hg1.size
  have hlen : (padTo l n).length = l.length + (n - l.length) := by simp [padTo]
  rw [← bys_pad, ← hlen] at hown2
  obtain ⟨A2, c2, rfl, hc2⟩ := ownsRow_slice hown2
  obtain ⟨B, c, hsl, _, _, _⟩ := hs
  have hmx : max (0 : Int) ((n : Int) - (l.length : Int)) = ((n - l.length : Nat) : Int) := by omega
  have Hg : Hid (w.grownBy w2 none) := by
    refine ⟨hg2.os.trans hg1.os, hg2.tape.trans hg1.tape, hg2.output.trans hg1.output, Nat.le_trans hg1.size hg2.size, fun k hk _ => (hg2.block k (Nat.lt_of_lt_of_le hk hg1.size) (fun e => ?_)).trans (hg1.block k hk (by simp))⟩
    have := (hown1.lt k e.symm).1
    omega
  have H1 := Lib.hid hrun1
  have H2 := Lib.hid hrun2
  have Hown2 := Lib.hid hown2
  clear hrun1 hrun2 hown1 hg1 hg2 hat2 hlen hown2
  subst hsl
  by_cases hle : (l.length : Int) < (n : Int)
  · have e1 : ((n - l.length : Nat) : Int) = (n : Int) - (l.length : Int) := by omega
    rw [e1] at H2
    clear e1 hmx
    have tok1 : True := trivial
    go_enter Try.func35, Try.ntmps35
    go_wp2_with (first | (at_builtin; have _t := tok1; refine wpList_run rfl (run_op_append rfl H1.out) ?_; clear _t tok1) | (at_builtin; refine wpList_run rfl (run_op_append rfl H2.out) ?_))
    go_ret
    exact ⟨_, _, rfl, Hown2.out, Hg.out⟩
  · have e1 : ((n - l.length : Nat) : Int) = 0 := by omega
    rw [e1] at H2
    clear e1 hmx
    by_cases hz : (n : Int) = (l.length : Int)
    · obtain rfl : n = l.length := by omega
      clear hz hle
      have tok1 : True := trivial
      go_enter Try.func35, Try.ntmps35
      go_wp2_with (first | (at_builtin; have _t := tok1; refine wpList_run rfl (run_op_append rfl H1.out) ?_; clear _t tok1) | (at_builtin; refine wpList_run rfl (run_op_append rfl H2.out) ?_))
      go_ret
      exact ⟨_, _, rfl, Hown2.out, Hg.out⟩
    · have hlt : (n : Int) < (l.length : Int) := by omega
      clear hz hle
      have tok1 : True := trivial
      go_enter Try.func35, Try.ntmps35
      go_wp2_with (first | (at_builtin; have _t := tok1; refine wpList_run rfl (run_op_append rfl H1.out) ?_; clear _t tok1) | (at_builtin; refine wpList_run rfl (run_op_append rfl H2.out) ?_))
      go_ret
      exact ⟨_, _, rfl, Hown2.out, Hg.out⟩

/-! Same -/
def toStr (l : List Int) : ByteArray := l.foldl (fun r n => r.push (UInt8.ofNat n.toNat)) ByteArray.empty

theorem toStr_data (l : List Int) : (toStr l).data.toList = l.map (fun n => UInt8.ofNat n.toNat) := by
  have h : ∀ (l : List Int) (b : ByteArray), (l.foldl (fun r n => r.push (UInt8.ofNat n.toNat)) b).data.toList = b.data.toList ++ l.map (fun n => UInt8.ofNat n.toNat) := by
    intro l
    induction l with
    | nil => intro b; simp
    | cons x l ih =>
      intro b
      simp only [List.foldl_cons, ih, List.map_cons]
      simp [ByteArray.push]
  rw [toStr, h]
  rfl

def Byt (l : List Int) : Prop := ∀ x ∈ l, 0 ≤ x ∧ x ≤ 255

theorem toStr_inj {l m : List Int} (hl : Byt l) (hm : Byt m) (h : (toStr l).toList = (toStr m).toList) : l = m := by
  have h1 : l.map (fun n => UInt8.ofNat n.toNat) = m.map (fun n => UInt8.ofNat n.toNat) := by
    rw [ByteArray.toList_eq, ByteArray.toList_eq, toStr_data, toStr_data] at h
    exact h
  have hlen : l.length = m.length := by simpa using congrArg List.length h1
  apply List.ext_getElem hlen
  intro i h2 h3
  have h4 : (l.map (fun n => UInt8.ofNat n.toNat))[i]'(by simpa using h2) = (m.map (fun n => UInt8.ofNat n.toNat))[i]'(by simpa using h3) := by simp only [h1]
  simp only [List.getElem_map] at h4
  have h5 := congrArg UInt8.toNat h4
  have a1 := hl l[i] (List.getElem_mem h2)
  have a2 := hm m[i] (List.getElem_mem h3)
  simp only [UInt8.toNat_ofNat'] at h5
  omega

theorem run_bytes_string (w : World) (v : Value) (l : List Int) (hs : Src w 1 v l.length (bys l)) : (convert 22 9 v).run Try.prog w = .ok (.string (toStr l)) w := by
  obtain ⟨A, c, rfl, hlc, hn, hc⟩ := hs
  rw [run_convert_bytes_string w 22 9 5 A l.length c Try.underlying22 Try.underlying5 Try.underlying9]
  cases A with
  | none =>
    have : l = [] := by
      cases l with
      | nil => rfl
      | cons x r => obtain ⟨ad, h, _⟩ := hc 0 (.int .u8 x) rfl; cases h
    subst this
    simp [Conv.bytesToString, toStr]
  | some ad =>
    have hf := run_firstCells_some (P := Try.prog) w 1 l.length ad l.length c (bys l) hn (fun j u hu => by obtain ⟨ad', h, hx⟩ := hc j u hu; cases h; exact hx)
    have hf' : (loadCells ad l.length).run Try.prog w = .ok (l.map (Value.int .u8)).toArray w := by simpa [Builtin.firstCells, bys] using hf
    exact run_bytesToString w ad l.length c l hf'

set_option maxRecDepth 100000 in
set_option maxHeartbeats 400000 in
theorem same_walk (av bv : Value) (l m : List Int) (w : World) (ha : Src w 1 av l.length (bys l)) (hb : Src w 1 bv m.length (bys m)) (hl : Byt l) (hm : Byt m) :
    Calls Try.prog 15 #[av, bv] w fun e w' => e = .returned (.bool (decide (l = m))) ∧ w = w' := by
  have c1 := run_bytes_string w av l ha
  have c2 := run_bytes_string w bv m hb
  have he : ((toStr l).toList == (toStr m).toList) = decide (l = m) := by
    by_cases h : l = m
    · subst h; simp
    · rw [decide_eq_false h, beq_eq_false_iff_ne]
      exact fun e => h (toStr_inj hl hm e)
  have He := Lib.hid he
  clear he ha hb hl hm
  generalize toStr l = s1 at *
  generalize toStr m = s2 at *
  go_enter Try.func15, Try.ntmps15
  go_wp2
  go_ret
  exact ⟨by rw [← He.out]; rfl, rfl⟩

/-! Lie -/
set_option maxRecDepth 100000 in
set_option maxHeartbeats 400000 in
theorem lie_walk (b ml : Nat) (n : Int) (bv : Value) (l : List Int) (L : Value → Option Value) (w : World)
    (h5 : w.cell? ⟨b, 5, none⟩ = some (.map (some ml))) (hL : IsMap w ml (IntKey .i64) L) (hs : Src w 1 bv l.length (bys l)) (hl : l.length ≤ 100000) :
    Calls Try.prog 14 #[wp0 b, .int .i64 n, bv] w fun e w' => e = .returned (.tuple #[]) ∧ ∃ A c w1, w1.ownsRow w.heap.size 5 1 (.slice A l.length c) l.length (bys l) ∧ w.grownBy w1 none ∧
      ∃ o, putObj w1 ml o = w' ∧ IsMap w' ml (IntKey .i64) (upd L (.int .i64 n) (.slice A l.length c)) ∧ ∃ es cl, o = .map es cl := by
  obtain ⟨i5, hi5, hz5, hs5, hb5⟩ := info_parts Try.info5
  obtain ⟨A1, c1, w1, hrun1, hown1, hg1⟩ := run_append_fresh (P := Try.prog) w.drew 22 22 5 i5 _ 1 1 Try.underlying22 hi5 hz5 hs5 hb5 rfl (by omega) bv l.length (bys l) hs.drew (bys_one l) (by simp only [maxLen]; omega) (by omega)
  have hg1' : w.grownBy w1 none := ⟨hg1.os, hg1.tape, hg1.output, hg1.size, hg1.block⟩
  have hL1 : IsMap w1 ml (IntKey .i64) L := hL.of_grown hg1' (by simp)
  have h51 : w1.cell? ⟨b, 5, none⟩ = some (.map (some ml)) := hg1'.cell h5 (by simp)
  obtain ⟨o, hup, hM3, ho⟩ := hL1.store (keyRun_int Try.underlying3) Try.underlying65 (x := .int .i64 n) ⟨n, rfl⟩ (.slice A1 l.length c1)
  have H1 := Lib.hid hrun1
  have Hup := Lib.hid hup
  clear hrun1 hup
  go_enter Try.func14, Try.ntmps14
  go_wp2
  refine wp_region_seq_drop (fun w' => w'.cell? ⟨b, 5, none⟩ = some (.map (some ml))) [0, 1, 2, 3, 4, 5] [0, 1, 2, 3, 4, 5, 6] 7 (by kernel_rfl) rfl (by kernel_rfl) (by kernel_rfl) (by kernel_rfl) rfl (by kernel_rfl) (fun _ _ _ _ _ h => h) (h5) ?_
  dsimp only [List.dropLast]
  repeat
    apply seq_read (by rfl)
    · (simp only [List.getElem?_toArray, List.getElem?_cons_succ, List.getElem?_cons_zero]; rfl)
    · rfl
    · (intro w' hSw; (first | subst hSw | (try dsimp only at hSw)); go_simp; (try go_bits); (try with_reducible rfl))
    simp only [Act.put, List.setIfInBounds_toArray, List.set_cons_zero, List.set_cons_succ]
  apply seq_act (by rfl)
  · (simp only [List.getElem?_toArray, List.getElem?_cons_succ, List.getElem?_cons_zero]; rfl)
  · rfl
  refine wp_val (run_op_append rfl H1.out) ⟨h51, ?_⟩
  try simp only [Act.put, List.setIfInBounds_toArray, List.set_cons_zero, List.set_cons_succ]
  refine seq_nil ?_
  apply last_act
  · (simp only [List.getElem?_toArray, List.getElem?_cons_succ, List.getElem?_cons_zero]; rfl)
  · rfl
  refine wp_void (run_op_mapUpdate rfl Hup.out) ?_
  try simp only [Act.put, List.setIfInBounds_toArray, List.set_cons_zero, List.set_cons_succ]
  go_wp2
  refine bodyPost_end (results_none rfl _ _ _) rfl ?_
  exact ⟨rfl, _, _, _, hown1, hg1', _, rfl, hM3, ho⟩

end Go.Proofs.Ytnndkameadlkdaa
