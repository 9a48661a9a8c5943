/- Bytes as a string; the padding; the keys of package audit's maps. -/
import Derived.Test.YtelljdkcgipkkaaGenF
import Derived.Test.YtelljdkcgipkkaaRows
namespace Go.Proofs.Ytelljdkcgipkkaa
open Go.RowKit

theorem Try.info5 : (Try.prog.info? 5).map (fun i => (i.zero, i.size, i.bytes)) = some (some (.int .u8 0), 1, 1) := by kernel_rfl
theorem Try.info26 : (Try.prog.info? 26).map (fun i => (i.zero, i.size, i.bytes)) = some (some (.agg #[.int .i64 0, .slice none 0 0]), 2, 32) := by kernel_rfl

/-! Pad -/
def padTo (l : List Int) (n : Nat) : List Int := l ++ List.replicate (n - l.length) 0
theorem bys_pad (l : List Int) (n : Nat) : bys (padTo l n) = bys l ++ List.replicate (n - l.length) (.int .u8 0) := by
  simp [padTo, bys]

set_option maxRecDepth 100000 in
set_option maxHeartbeats 400000 in
theorem pad_walk (bv : Value) (l : List Int) (n : Nat) (w : World) (hs : Src w 1 bv l.length (bys l)) (hl : l.length ≤ 100000) (hn : n ≤ 100000) :
    Calls Try.prog 12 #[bv, .int .i64 (n : Int)] w fun e w' => ∃ A c, e = .returned (.slice A (padTo l n).length c) ∧ w'.ownsRow w.heap.size 5 1 (.slice A (padTo l n).length c) (padTo l n).length (bys (padTo l n)) ∧ w.grownBy w' none := by
  obtain ⟨i5, hi5, hz5, hs5, hb5⟩ := info_parts Try.info5
  obtain ⟨A1, c1, w1, hrun1, hown1, hg1⟩ := run_append_fresh (P := Try.prog) w 24 24 5 i5 _ 1 1 Try.underlying24 hi5 hz5 hs5 hb5 rfl (by omega) bv l.length (bys l) hs (bys_one l) (by simp only [maxLen]; omega) (by omega)
  obtain ⟨v2, w2, hrun2, hown2, hg2, hat2⟩ := run_append_zeros (P := Try.prog) w1 w.heap.size 24 3 24 5 i5 _ 1 .i64 .i64 Try.underlying24 Try.underlying3 hi5 hz5 hs5 hb5 rfl rfl (.slice A1 l.length c1) l.length (bys l) hown1 (n - l.length) (by simp only [maxLen]; omega) (by omega) hg1.size
  have hlen : (padTo l n).length = l.length + (n - l.length) := by simp [padTo]
  rw [← bys_pad, ← hlen] at hown2
  obtain ⟨A2, c2, rfl, hc2⟩ := ownsRow_slice hown2
  obtain ⟨B, c, hsl, _, _, _⟩ := hs
  have hmx : max (0 : Int) ((n : Int) - (l.length : Int)) = ((n - l.length : Nat) : Int) := by omega
  have Hg : Hid (w.grownBy w2 none) := by
    refine ⟨hg2.os.trans hg1.os, hg2.tape.trans hg1.tape, hg2.output.trans hg1.output, Nat.le_trans hg1.size hg2.size, fun k hk _ => (hg2.block k (Nat.lt_of_lt_of_le hk hg1.size) (fun e => ?_)).trans (hg1.block k hk (by simp))⟩
    have := (hown1.lt k e.symm).1
    omega
  have H1 := Lib.hid hrun1
  have H2 := Lib.hid hrun2
  have Hown2 := Lib.hid hown2
  clear hrun1 hrun2 hown1 hg1 hg2 hat2 hlen hown2
  subst hsl
  by_cases hle : (l.length : Int) < (n : Int)
  · have e1 : ((n - l.length : Nat) : Int) = (n : Int) - (l.length : Int) := by omega
    rw [e1] at H2
    clear e1 hmx
    have tok1 : True := trivial
    go_enter Try.func12, Try.ntmps12
    go_wp2_with (first | (at_builtin; have _t := tok1; refine wpList_run rfl (run_op_append rfl H1.out) ?_; clear _t tok1) | (at_builtin; refine wpList_run rfl (run_op_append rfl H2.out) ?_))
    go_ret
    exact ⟨_, _, rfl, Hown2.out, Hg.out⟩
  · have e1 : ((n - l.length : Nat) : Int) = 0 := by omega
    rw [e1] at H2
    clear e1 hmx
    by_cases hz : (n : Int) = (l.length : Int)
    · obtain rfl : n = l.length := by omega
      clear hz hle
      have tok1 : True := trivial
      go_enter Try.func12, Try.ntmps12
      go_wp2_with (first | (at_builtin; have _t := tok1; refine wpList_run rfl (run_op_append rfl H1.out) ?_; clear _t tok1) | (at_builtin; refine wpList_run rfl (run_op_append rfl H2.out) ?_))
      go_ret
      exact ⟨_, _, rfl, Hown2.out, Hg.out⟩
    · have hlt : (n : Int) < (l.length : Int) := by omega
      clear hz hle
      have tok1 : True := trivial
      go_enter Try.func12, Try.ntmps12
      go_wp2_with (first | (at_builtin; have _t := tok1; refine wpList_run rfl (run_op_append rfl H1.out) ?_; clear _t tok1) | (at_builtin; refine wpList_run rfl (run_op_append rfl H2.out) ?_))
      go_ret
      exact ⟨_, _, rfl, Hown2.out, Hg.out⟩

/-! Same -/
def toStr (l : List Int) : ByteArray := l.foldl (fun r n => r.push (UInt8.ofNat n.toNat)) ByteArray.empty

theorem toStr_data (l : List Int) : (toStr l).data.toList = l.map (fun n => UInt8.ofNat n.toNat) := by
  have h : ∀ (l : List Int) (b : ByteArray), (l.foldl (fun r n => r.push (UInt8.ofNat n.toNat)) b).data.toList = b.data.toList ++ l.map (fun n => UInt8.ofNat n.toNat) := by
    intro l
    induction l with
    | nil => intro b; simp
    | cons x l ih =>
      intro b
      simp only [List.foldl_cons, ih, List.map_cons]
      simp [ByteArray.push]
  rw [toStr, h]
  rfl

def Byt (l : List Int) : Prop := ∀ x ∈ l, 0 ≤ x ∧ x ≤ 255

theorem toStr_inj {l m : List Int} (hl : Byt l) (hm : Byt m) (h : (toStr l).toList = (toStr m).toList) : l = m := by
  have h1 : l.map (fun n => UInt8.ofNat n.toNat) = m.map (fun n => UInt8.ofNat n.toNat) := by
    rw [ByteArray.toList_eq, ByteArray.toList_eq, toStr_data, toStr_data] at h
    exact h
  have hlen : l.length = m.length := by simpa using congrArg List.length h1
  apply List.ext_getElem hlen
  intro i h2 h3
  have h4 : (l.map (fun n => UInt8.ofNat n.toNat))[i]'(by simpa using h2) = (m.map (fun n => UInt8.ofNat n.toNat))[i]'(by simpa using h3) := by simp only [h1]
  simp only [List.getElem_map] at h4
  have h5 := congrArg UInt8.toNat h4
  have a1 := hl l[i] (List.getElem_mem h2)
  have a2 := hm m[i] (List.getElem_mem h3)
  simp only [UInt8.toNat_ofNat'] at h5
  omega

theorem run_bytes_string (w : World) (v : Value) (l : List Int) (hs : Src w 1 v l.length (bys l)) : (convert 24 9 v).run Try.prog w = .ok (.string (toStr l)) w := by
  obtain ⟨A, c, rfl, hlc, hn, hc⟩ := hs
  rw [run_convert_bytes_string w 24 9 5 A l.length c Try.underlying24 Try.underlying5 Try.underlying9]
  cases A with
  | none =>
    have : l = [] := by
      cases l with
      | nil => rfl
      | cons x r => obtain ⟨ad, h, _⟩ := hc 0 (.int .u8 x) rfl; cases h
    subst this
    simp [Conv.bytesToString, toStr]
  | some ad =>
    have hf := run_firstCells_some (P := Try.prog) w 1 l.length ad l.length c (bys l) hn (fun j u hu => by obtain ⟨ad', h, hx⟩ := hc j u hu; cases h; exact hx)
    have hf' : (loadCells ad l.length).run Try.prog w = .ok (l.map (Value.int .u8)).toArray w := by simpa [Builtin.firstCells, bys] using hf
    exact run_bytesToString w ad l.length c l hf'


/-! the key of a slot -/
def plk (a s : Int) : Value := .agg #[.int .i64 a, .int .i64 s]
def PlaceKey (v : Value) : Prop := ∃ a s : Int, v = plk a s

theorem plk_inj {a s a' s' : Int} (h : plk a s = plk a' s') : a = a' ∧ s = s' := by
  unfold plk at h
  simp at h
  exact h

theorem place_held : Try.prog.stoodInHeld 42 = false := by kernel_rfl

theorem place_equal (w : World) (a s a' s' : Int) : (Op.equal 42 (plk a s) (plk a' s')).run Try.prog w = .ok (a == a' && s == s') w := by
  unfold plk Op.equal Op.maxDepth
  go_simp
  by_cases h1 : a = a' <;> by_cases h2 : s = s' <;> simp [h1, h2]

theorem place_check (w : World) (em : Bool) (a s : Int) : (Instr.checkKey em 10000 42 (plk a s)).run Try.prog w = .ok () w := by
  have hint : ∀ n : Int, (Instr.checkKey em 9999 3 (.int .i64 n)).run Try.prog w = .ok () w := fun n => MapKept.run_checkKey (k := .int .i64 n) Try.underlying3 (show MapKept.IsKey (.int .i64) (.int .i64 n) from rfl) em 9998
  have h1 : ∀ (f : Nat), (Instr.checkKey em (f + 1) 42 (plk a s)).run Try.prog w = ((Instr.checkKey em f 3 (.int .i64 a)).run Try.prog w).andThen fun _ w1 => ((Instr.checkKey em f 3 (.int .i64 s)).run Try.prog w1).andThen fun _ w2 => .ok () w2 := by
    intro f
    unfold plk
    rw [Instr.checkKey]
    simp only [Sem.run_bind, run_underlying Try.underlying42, Result.andThen_ok]
    go_simp
    generalize (Instr.checkKey em f 3 (Value.int IntKind.i64 a)).run Try.prog w = r
    cases r <;> simp [Result.andThen]
  rw [h1 9999, hint, Result.andThen_ok, hint, Result.andThen_ok]

theorem place_stays (w : World) (a s : Int) : (Instr.keyThatStays (plk a s) (plk a s)).run Try.prog w = .ok (plk a s) w := by
  have : Instr.sameBits 10000 (plk a s) (plk a s) = true := by simp [plk, Instr.sameBits]
  simp [Instr.keyThatStays, this]

theorem place_asking (w : World) (a s : Int) : ∀ (es : List MapEntry) (i : Nat), (∀ e ∈ es, PlaceKey e.key) →
    ((Instr.findAsking 42 (plk a s) es i).run Try.prog w = .ok none w ∧ ∀ e ∈ es, e.key ≠ plk a s) ∨ ∃ j e, (Instr.findAsking 42 (plk a s) es i).run Try.prog w = .ok (some (i + j, e.val)) w ∧ es[j]? = some e ∧ e.key = plk a s
  | [], i, _ => Or.inl ⟨by simp [Instr.findAsking], by simp⟩
  | e :: es, i, h => by
    obtain ⟨a', s', hk⟩ := h e (.head _)
    have heq := place_equal w a s a' s'
    by_cases hs : a = a' ∧ s = s'
    · obtain ⟨rfl, rfl⟩ := hs
      refine Or.inr ⟨0, e, ?_, rfl, hk⟩
      simp only [beq_self_eq_true, Bool.and_self] at heq
      simp [Instr.findAsking, hk, heq, Result.andThen]
    · have hf : (a == a' && s == s') = false := by
        rw [Bool.and_eq_false_iff]
        by_cases h1 : a = a'
        · right
          simpa using fun h2 => hs ⟨h1, h2⟩
        · left
          simpa using h1
      rw [hf] at heq
      have hne : e.key ≠ plk a s := by
        rw [hk]
        intro hc
        obtain ⟨h1, h2⟩ := plk_inj hc
        exact hs ⟨h1.symm, h2.symm⟩
      rcases place_asking w a s es (i + 1) (fun x hx => h x (.tail _ hx)) with ⟨h1, h2⟩ | ⟨j, e', h1, h2, h3⟩
      · refine Or.inl ⟨by simp [Instr.findAsking, hk, heq, Result.andThen, h1], fun x hx => ?_⟩
        cases hx with
        | head => exact hne
        | tail _ hx => exact h2 x hx
      · refine Or.inr ⟨j + 1, e', ?_, by simpa using h2, h3⟩
        simp [Instr.findAsking, hk, heq, Result.andThen, h1]
        omega

theorem place_findKey (w : World) (a s : Int) (es : List MapEntry) (h : ∀ e ∈ es, PlaceKey e.key) : (Instr.findKey 42 (plk a s) es).run Try.prog w = (Instr.findAsking 42 (plk a s) es 0).run Try.prog w := by
  simp only [Instr.findKey, Sem.run_bind, run_underlying Try.underlying42, Result.andThen_ok]
  cases es with
  | nil => simp [Instr.findNow, Instr.findAsking]
  | cons e es =>
    obtain ⟨a', s', hk⟩ := h e (.head _)
    simp [Instr.findNow, hk, plk, Instr.sameNow]

theorem keyRun_place : KeyRun Try.prog 42 PlaceKey where
  check w em v hv := by obtain ⟨a, s, rfl⟩ := hv; exact place_check w em a s
  find w x hx es hes := by
    obtain ⟨a, s, rfl⟩ := hx
    rw [place_findKey w a s es hes]
    rcases place_asking w a s es 0 hes with h | ⟨j, e, h1, h2, h3⟩
    · exact Or.inl h
    · exact Or.inr ⟨j, e, by simpa using h1, h2, h3⟩
  stays w v hv := by obtain ⟨a, s, rfl⟩ := hv; exact place_stays w a s


/-! the key of an item -/
def ik (a : Int) (l : List Int) : Value := .agg #[.int .i64 a, .string (toStr l)]
def ItemKey (v : Value) : Prop := ∃ (a : Int) (l : List Int), Byt l ∧ v = ik a l

theorem toStr_ne {l m : List Int} (hl : Byt l) (hm : Byt m) (h : toStr l = toStr m) : l = m := toStr_inj hl hm (by rw [h])
theorem ik_inj {a a' : Int} {l l' : List Int} (hl : Byt l) (hl' : Byt l') (h : ik a l = ik a' l') : a = a' ∧ l = l' := by
  unfold ik at h
  simp at h
  exact ⟨h.1, toStr_ne hl hl' h.2⟩

theorem item_equal (w : World) (a a' : Int) (l l' : List Int) (hl : Byt l) (hl' : Byt l') : (Op.equal 36 (ik a l) (ik a' l')).run Try.prog w = .ok (decide (a = a' ∧ l = l')) w := by
  have he : ((toStr l).toList == (toStr l').toList) = decide (l = l') := by
    by_cases h : l = l'
    · subst h; simp
    · rw [decide_eq_false h, beq_eq_false_iff_ne]
      exact fun e => h (toStr_inj hl hl' e)
  unfold ik Op.equal Op.maxDepth
  go_simp
  by_cases h1 : a = a' <;> by_cases h2 : l = l' <;> simp [h1, h2]

theorem item_check (w : World) (em : Bool) (a : Int) (l : List Int) : (Instr.checkKey em 10000 36 (ik a l)).run Try.prog w = .ok () w := by
  have hint : ∀ n : Int, (Instr.checkKey em 9999 3 (.int .i64 n)).run Try.prog w = .ok () w := fun n => MapKept.run_checkKey (k := .int .i64 n) Try.underlying3 (show MapKept.IsKey (.int .i64) (.int .i64 n) from rfl) em 9998
  have hstr : ∀ b : ByteArray, (Instr.checkKey em 9999 9 (.string b)).run Try.prog w = .ok () w := fun b => MapKept.run_checkKey (k := .string b) Try.underlying9 (show MapKept.IsKey .string (.string b) from trivial) em 9998
  have h1 : ∀ (f : Nat), (Instr.checkKey em (f + 1) 36 (ik a l)).run Try.prog w = ((Instr.checkKey em f 3 (.int .i64 a)).run Try.prog w).andThen fun _ w1 => ((Instr.checkKey em f 9 (.string (toStr l))).run Try.prog w1).andThen fun _ w2 => .ok () w2 := by
    intro f
    unfold ik
    rw [Instr.checkKey]
    simp only [Sem.run_bind, run_underlying Try.underlying36, Result.andThen_ok]
    go_simp
    generalize (Instr.checkKey em f 3 (Value.int IntKind.i64 a)).run Try.prog w = r
    cases r <;> simp [Result.andThen]
  rw [h1 9999, hint, Result.andThen_ok, hstr, Result.andThen_ok]

theorem item_stays (w : World) (a : Int) (l : List Int) : (Instr.keyThatStays (ik a l) (ik a l)).run Try.prog w = .ok (ik a l) w := by
  have hb : ∀ b : ByteArray, (b == b) = true := fun b => by
    show (b.data == b.data) = true
    simp
  have : Instr.sameBits 10000 (ik a l) (ik a l) = true := by simp [ik, Instr.sameBits, hb]
  simp [Instr.keyThatStays, this]

theorem item_asking (w : World) (a : Int) (l : List Int) (hl : Byt l) : ∀ (es : List MapEntry) (i : Nat), (∀ e ∈ es, ItemKey e.key) →
    ((Instr.findAsking 36 (ik a l) es i).run Try.prog w = .ok none w ∧ ∀ e ∈ es, e.key ≠ ik a l) ∨ ∃ j e, (Instr.findAsking 36 (ik a l) es i).run Try.prog w = .ok (some (i + j, e.val)) w ∧ es[j]? = some e ∧ e.key = ik a l
  | [], i, _ => Or.inl ⟨by simp [Instr.findAsking], by simp⟩
  | e :: es, i, h => by
    obtain ⟨a', l', hl', hk⟩ := h e (.head _)
    have heq := item_equal w a a' l l' hl hl'
    by_cases hs : a = a' ∧ l = l'
    · obtain ⟨rfl, rfl⟩ := hs
      refine Or.inr ⟨0, e, ?_, rfl, hk⟩
      rw [decide_eq_true ⟨rfl, rfl⟩] at heq
      simp [Instr.findAsking, hk, heq, Result.andThen]
    · rw [decide_eq_false hs] at heq
      have hne : e.key ≠ ik a l := by
        rw [hk]
        intro hc
        obtain ⟨h1, h2⟩ := ik_inj hl' hl hc
        exact hs ⟨h1.symm, h2.symm⟩
      rcases item_asking w a l hl es (i + 1) (fun x hx => h x (.tail _ hx)) with ⟨h1, h2⟩ | ⟨j, e', h1, h2, h3⟩
      · refine Or.inl ⟨by simp [Instr.findAsking, hk, heq, Result.andThen, h1], fun x hx => ?_⟩
        cases hx with
        | head => exact hne
        | tail _ hx => exact h2 x hx
      · refine Or.inr ⟨j + 1, e', ?_, by simpa using h2, h3⟩
        simp [Instr.findAsking, hk, heq, Result.andThen, h1]
        omega

theorem item_findKey (w : World) (a : Int) (l : List Int) (es : List MapEntry) (h : ∀ e ∈ es, ItemKey e.key) : (Instr.findKey 36 (ik a l) es).run Try.prog w = (Instr.findAsking 36 (ik a l) es 0).run Try.prog w := by
  simp only [Instr.findKey, Sem.run_bind, run_underlying Try.underlying36, Result.andThen_ok]
  cases es with
  | nil => simp [Instr.findNow, Instr.findAsking]
  | cons e es =>
    obtain ⟨a', l', _, hk⟩ := h e (.head _)
    simp [Instr.findNow, hk, ik, Instr.sameNow]

theorem keyRun_item : KeyRun Try.prog 36 ItemKey where
  check w em v hv := by obtain ⟨a, l, _, rfl⟩ := hv; exact item_check w em a l
  find w x hx es hes := by
    obtain ⟨a, l, hl, rfl⟩ := hx
    rw [item_findKey w a l es hes]
    rcases item_asking w a l hl es 0 hes with h | ⟨j, e, h1, h2, h3⟩
    · exact Or.inl h
    · exact Or.inr ⟨j, e, by simpa using h1, h2, h3⟩
  stays w v hv := by obtain ⟨a, l, _, rfl⟩ := hv; exact item_stays w a l

end Go.Proofs.Ytelljdkcgipkkaa
