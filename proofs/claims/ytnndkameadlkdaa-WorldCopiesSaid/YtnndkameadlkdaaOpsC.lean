/- The contract of World.Write, said of a world as data. -/
import Derived.Test.YtnndkameadlkdaaOpsB
namespace Go.Proofs.Ytnndkameadlkdaa
open Go.RowKit

section
variable {w : World} {b : Nat} {t : WS} {F : Nat → Prop} {ms ml : Nat} {s0 s1 tv : Value} {M L : Value → Option Value} {bs : List Value}

theorem RepG.setRow (h : RepG w b t F ms ml s0 s1 tv M L bs) {a s : Int} {g : Nat} (hM : M (plk a s) = some (.pointer (some ⟨g, 0, none⟩))) (x : List Int) (hx : x.length = 272) (hb : Byt x) :
    RepG (w.setRow g (bys x).toArray) b (t.setSlot a s x) F ms ml s0 s1 tv M L bs ∧ Evo F w (w.setRow g (bys x).toArray) := by
  obtain ⟨g', e1, hFg, hg⟩ := h.slots.some_ a s _ hM
  cases e1
  have hset := setRow_heap w g _ (bys x).toArray 96 _ hg
  have hoth : ∀ k, k ≠ g → (w.setRow g (bys x).toArray).heap[k]? = w.heap[k]? := fun k hk => setRow_other w g k _ hk
  have hsz : (w.setRow g (bys x).toArray).heap.size = w.heap.size := by simp [World.setRow]
  have S : ∀ e, e ≠ 96 → SameKind e w (w.setRow g (bys x).toArray) := by
    intro e he k c f hk
    rw [hoth k]
    · exact hk
    · rintro rfl
      rw [hg] at hk
      injection hk with hk
      injection hk with _ h2
      exact he h2.symm
  have hmap : ∀ (k : Nat) (es : Array MapEntry) (c : Nat), w.heap[k]? = some (Obj.map es c) → (w.setRow g (bys x).toArray).heap[k]? = w.heap[k]? := by
    intro k es c hk
    refine hoth k ?_
    rintro rfl
    rw [hg] at hk
    injection hk with hk
    cases hk
  have hid : ∀ k, F k → F k := fun _ hk => hk
  obtain ⟨es1, cl1, hes1, _⟩ := h.slots.map
  obtain ⟨es2, cl2, hes2, _⟩ := h.lies.map
  refine ⟨?_, ⟨rfl, rfl, rfl, by rw [hsz]; exact Nat.le_refl _, fun k hk hn => hoth k (fun e => hn (e ▸ hFg))⟩⟩
  exact {
    cell := S 73 (by decide) _ _ _ h.cell
    fb := h.fb, fms := h.fms, fml := h.fml, ne := h.ne
    lt := fun k hk => by rw [hsz]; exact h.lt k hk
    slots := {
      map := h.slots.map.same (hmap _ _ _ hes1)
      none_ := fun a' s' hn => by
        have hne : ¬ (a' = a ∧ s' = s) := by
          rintro ⟨rfl, rfl⟩
          rw [hM] at hn
          cases hn
        simp only [WS.setSlot, if_neg hne]
        exact h.slots.none_ a' s' hn
      some_ := fun a' s' v hv => by
        by_cases hne : a' = a ∧ s' = s
        · obtain ⟨rfl, rfl⟩ := hne
          rw [hM] at hv
          cases hv
          exact ⟨g, rfl, hFg, by simp only [WS.setSlot, and_self, if_true]; exact hset⟩
        · obtain ⟨g', e1, e2, e3⟩ := h.slots.some_ a' s' v hv
          refine ⟨g', e1, e2, ?_⟩
          simp only [WS.setSlot, if_neg hne]
          rw [hoth g']
          · exact e3
          · rintro rfl
            subst e1
            obtain ⟨e4, e5⟩ := h.slots.inj a' s' a s _ hv hM
            exact hne ⟨e4, e5⟩
      inj := h.slots.inj
      len := fun a' s' => by
        simp only [WS.setSlot]
        split
        · exact hx
        · exact h.slots.len a' s'
      byt := fun a' s' => by
        simp only [WS.setSlot]
        split
        · exact hb
        · exact h.slots.byt a' s' }
    lies := h.lies.keep (hmap _ _ _ hes2) (S 5 (by decide)) hid
    seal0 := h.seal0.same (S 5 (by decide)) hid
    seal1 := h.seal1.same (S 5 (by decide)) hid
    trace := h.trace.keep (S 52 (by decide)) (S 5 (by decide)) hid
    ok0 := h.ok0, ok1 := h.ok1, blocks0 := h.blocks0, blocks1 := h.blocks1, counter0 := h.counter0, counter1 := h.counter1
    reads0 := h.reads0, reads1 := h.reads1, power0 := h.power0, power1 := h.power1, small := h.small }
end

theorem Src.evo0 {w w' : World} {n : Nat} {v : Value} {xs : List Value} {F : Nat → Prop} (h : Src w 1 v n xs) (he : Evo F w w') (hF : ∀ ad c, v = .slice (some ad) n c → 0 < n → ¬ F ad.block) : Src w' 1 v n xs := by
  rcases Nat.eq_zero_or_pos n with h0 | h0
  · obtain ⟨A, c, rfl, hnc, hl, hc⟩ := h
    have hx : xs = [] := List.eq_nil_of_length_eq_zero (by omega)
    subst hx
    exact ⟨A, c, rfl, hnc, hl, fun j u hu => (by cases hu)⟩
  · exact h.evo he (fun ad c e => hF ad c e h0)

theorem padTo_byt {l : List Int} (h : Byt l) (n : Nat) : Byt (padTo l n) := fun x hx => by
  rcases List.mem_append.1 hx with hx | hx
  · exact h x hx
  · rw [List.eq_of_mem_replicate hx]; omega
theorem padTo_len (l : List Int) (n : Nat) : n ≤ (padTo l n).length := by simp [padTo]; omega
theorem pad_len (l : List Int) : (WS.pad l).length = 272 := by
  unfold WS.pad
  rw [List.length_take]
  have := padTo_len l 272
  omega
theorem pad_byt {l : List Int} (h : Byt l) : Byt (WS.pad l) := fun x hx => padTo_byt h 272 x (List.mem_of_mem_take hx)
theorem over_len {l m : List Int} {k : Int} (h1 : l.length = 272) (h2 : m.length = 272) (h3 : k ≤ 272) : (WS.over l m k).length = 272 := by
  simp [WS.over, h1, h2]; omega
theorem over_byt {l m : List Int} (k : Int) (h1 : Byt l) (h2 : Byt m) : Byt (WS.over l m k) := fun x hx => by
  rcases List.mem_append.1 hx with hx | hx
  · exact h2 x (List.mem_of_mem_take hx)
  · exact h1 x (List.mem_of_mem_drop hx)

theorem bys_take (l : List Int) (k : Nat) : (bys l).take k = bys (l.take k) := by simp [bys]
theorem bys_drop (l : List Int) (k : Nat) : bys (l.drop k) = (bys l).drop k := by simp [bys]
theorem takesN_nonneg {t : WS} {n : Int} (h : 0 ≤ t.power) (hn : 0 ≤ n) : 0 ≤ t.takesN n := by unfold WS.takesN; split <;> omega
theorem takesN_le {t : WS} {n : Int} : t.takesN n ≤ n := by unfold WS.takesN; split <;> omega
theorem note_takes_dead (t : WS) (k a s : Int) (l : List Int) (n : Int) : ((t.note k a s l).takes n).dead = (t.takes n).dead := by
  cases h : t.armed <;> simp [WS.note, WS.takes, h]

theorem takes_reads (t : WS) (n : Int) : (t.takes n).reads = t.reads := by unfold WS.takes; split <;> rfl
theorem takes_trace (t : WS) (n : Int) : (t.takes n).trace = t.trace := by unfold WS.takes; split <;> rfl

section
variable {w : World} {b : Nat} {t : WS} {F : Nat → Prop}
set_option maxRecDepth 100000 in
set_option maxHeartbeats 400000 in
theorem R_write (hR : Rep w b t F) (a s : Int) (bv : Value) (l : List Int) (hs : Src w 1 bv l.length (bys l)) (hl : Okb l) (hF : ∀ ad n c, bv = .slice (some ad) n c → 0 < n → ad.block < w.heap.size ∧ ¬ F ad.block) (hsm : t.trace.length < 900000) :
    Calls Try.prog 12 #[wp0 b, .int .i64 a, .int .i64 s, bv] w fun e w' => ∃ F', e = .returned (.bool (t.writeB a s)) ∧ Goes w F b (t.write a s l) w' F' := by
  obtain ⟨⟨ms, ml, s0, s1, tv, M, L, bs, h⟩, hrd⟩ := hR
  obtain ⟨i5, hi5, hz5, hs5, hb5⟩ := info_parts Try.info5
  cases hth : t.there a s with
  | false =>
    have H := there_not hth
    have hR : Rep w b t F := ⟨⟨ms, ml, s0, s1, tv, M, L, bs, h⟩, hrd⟩
    have e1 : t.writeB a s = false := by simp [WS.writeB, hth]
    have e2 : t.write a s l = t := by simp [WS.write, hth]
    rw [e1, e2]
    clear e1 e2
    go_enter Try.func12, Try.ntmps12
    go_wp2_with fail
    refine (there_no b a s t.blocks t.dead w (blk_cell h.cell 9) (blk_cell h.cell 0) H).mono ?_
    rintro e w' ⟨rfl, rfl⟩
    go_wp2_with fail
    go_ret
    exact ⟨F, rfl, Goes.refl hR⟩
  | true =>
    obtain ⟨H1, H2, H3, H4⟩ := there_of hth
    have e1 : t.writeB a s = !(t.takes 272).dead := by simp [WS.writeB, hth]
    have e2 : t.write a s l = ((t.note 2 a s l).takes 272).setSlot a s (WS.over (t.slots a s) (WS.pad l) (t.takesN 272)) := by simp [WS.write, hth]
    rw [e1, e2]
    clear e1 e2
    have hd : w.cell? ⟨b, 9, none⟩ = some (.bool false) := by have := blk_cell h.cell 9; simpa [wcells, H1] using this
    go_enter Try.func12, Try.ntmps12
    go_wp2_with fail
    refine (there_yes b a s t.blocks w hd (blk_cell h.cell 0) H2 H3 H4).mono ?_
    rintro e w' ⟨rfl, rfl⟩
    have HD := Lib.hid H1
    clear hd H1 H2 H3 H4
    go_wp2_with fail
    refine (R_note h 2 a s bv l hs hl hsm).mono ?_
    rintro e w1 ⟨rfl, tv', bs', h1, hev1⟩
    have hs1 : Src w1 1 bv l.length (bys l) := hs.evo0 hev1 (fun ad c e hn => (hF ad _ c e hn).2)
    clear hF
    go_wp2_with fail
    refine (pad_walk bv l 272 w1 hs1 hl.1 (by omega)).mono ?_
    rintro e w2 ⟨A, c, rfl, hown, hg2⟩
    have hc1 : (padTo l 272).length ≤ c := by obtain ⟨A', c', e, hc⟩ := ownsRow_slice hown; cases e; exact hc
    have hc2 : (272 : Int) ≤ (c : Int) := by have := padTo_len l 272; omega
    have hev2 : Evo (fun _ => False) w1 w2.drew := ((Evo.refl _ w1).grown hg2 (by simp)).drew
    have h2 := h1.apart hev2 (fun _ _ hf => hf)
    have hd2 : (t.note 2 a s l).dead = false := HD.out
    obtain ⟨kn, HK⟩ : ∃ kn : Nat, Hid ((t.note 2 a s l).takesN 272 = (kn : Int)) := ⟨((t.note 2 a s l).takesN 272).toNat, (Int.toNat_of_nonneg (takesN_nonneg h2.power0 (by omega))).symm⟩
    have hkn : kn ≤ 272 := by have h5 := HK.out; have h6 := takesN_le (t := t.note 2 a s l) (n := 272); omega
    have hkc : (kn : Int) ≤ (c : Int) := by omega
    have hown2 : w2.drew.ownsRow w1.heap.size 5 1 (.slice A (padTo l 272).length c) (padTo l 272).length (bys (padTo l 272)) := hown
    have HD2 := Lib.hid hd2
    clear hd2 hc1 hown
    go_wp2
    refine wp_region_seq_drop (fun _ => True) [0, 1, 2, 6, 7, 4, 5, 9] [0, 1, 2, 6, 7, 3, 4, 5, 8, 9] 10 (by kernel_rfl) rfl (by kernel_rfl) (by kernel_rfl) (by kernel_rfl) rfl (by kernel_rfl) (fun _ _ _ _ _ h => h) (trivial) ?_
    dsimp only [List.dropLast]
    repeat
      apply seq_read (by rfl)
      · (simp only [List.getElem?_toArray, List.getElem?_cons_succ, List.getElem?_cons_zero]; rfl)
      · rfl
      · (intro w' hSw; (first | subst hSw | (try dsimp only at hSw)); go_simp; (try go_bits); (try with_reducible rfl))
      simp only [Act.put, List.setIfInBounds_toArray, List.set_cons_zero, List.set_cons_succ]
    apply seq_act (by rfl)
    · (simp only [List.getElem?_toArray, List.getElem?_cons_succ, List.getElem?_cons_zero]; rfl)
    · rfl
    refine wp_k (fun K hK => ?_)
    go_simp
    refine (R_slot h2 a s).mono ?_
    rintro e w3 ⟨g, M', rfl, h3, hev3, hM3⟩
    refine hK _ _ ⟨trivial, ?_⟩
    clear hK K
    try simp only [Act.put, List.setIfInBounds_toArray, List.set_cons_zero, List.set_cons_succ]
    repeat
      apply seq_read (by rfl)
      · (simp only [List.getElem?_toArray, List.getElem?_cons_succ, List.getElem?_cons_zero]; rfl)
      · rfl
      · (intro w' hSw; (first | subst hSw | (try dsimp only at hSw)); go_simp; (try go_bits); (try with_reducible rfl))
      simp only [Act.put, List.setIfInBounds_toArray, List.set_cons_zero, List.set_cons_succ]
    apply seq_act (by rfl)
    · (simp only [List.getElem?_toArray, List.getElem?_cons_succ, List.getElem?_cons_zero]; rfl)
    · rfl
    refine wp_k (fun K hK => ?_)
    go_simp
    refine (R_takes h3 272 (by omega) (by omega) HD2.out).mono ?_
    rintro e w4 ⟨rfl, h4, hev4, hk96, hk5, hsz4⟩
    rw [HK.out]
    refine hK _ _ ⟨trivial, ?_⟩
    clear hK K
    try simp only [Act.put, List.setIfInBounds_toArray, List.set_cons_zero, List.set_cons_succ]
    repeat
      apply seq_read (by rfl)
      · (simp only [List.getElem?_toArray, List.getElem?_cons_succ, List.getElem?_cons_zero]; rfl)
      · rfl
      · (intro w' hSw; (first | subst hSw | (try dsimp only at hSw)); go_simp; (try go_bits); (try with_reducible rfl))
      simp only [Act.put, List.setIfInBounds_toArray, List.set_cons_zero, List.set_cons_succ]
    have hg4 : w4.heap[g]? = some (.cells (bys ((t.note 2 a s l).slots a s)).toArray 96 (0, 0)) := by
      obtain ⟨g', e1, _, e3⟩ := h3.slots.some_ a s _ hM3
      cases e1
      exact hk96 _ _ _ e3
    have hnF : ∀ g', (Value.slice A (padTo l 272).length c).ownBlock = some g' → ¬ Plus F w w1 g' := by
      intro g' hg' hf
      have h5 := (hown2.lt g' hg').1
      have h6 := h1.lt g' hf
      omega
    have hnF2 : ∀ g', (Value.slice A (padTo l 272).length c).ownBlock = some g' → ¬ Plus (Plus F w w1) w2.drew w3 g' := by
      intro g' hg' hf
      rcases hf with hf | hf
      · exact hnF g' hg' hf
      · have h5 := (hown2.lt g' hg').2
        have h6 := hf.1
        omega
    have hown4 := ownsRow_evo (ownsRow_evo hown2 hev3 hnF) hev4 hnF2
    have hsrc : Src w4 1 (.slice A kn c) kn (bys ((padTo l 272).take kn)) := by
      have := (Src.of_own hown4).take (k := kn) (by have := padTo_len l 272; omega) rfl
      rwa [bys_take] at this
    have hcp := run_copy_head (P := Try.prog) w4 22 22 3 5 i5 Try.underlying22 hi5 hs5 g 272 272 96 _ hg4 (by rw [List.size_toArray, bys_length, h3.slots.len]; omega) _ kn _ hsrc (bys_one _) hkn
    have hrow : bys ((padTo l 272).take kn) ++ (bys ((t.note 2 a s l).slots a s)).toArray.toList.drop kn = bys (WS.over (t.slots a s) (WS.pad l) kn) := by
      have e1 : (WS.pad l).take kn = (padTo l 272).take kn := by unfold WS.pad; rw [List.take_take, Nat.min_eq_left hkn]
      unfold WS.over
      rw [bys_append, Int.toNat_natCast, e1, bys_drop]
      rfl
    rw [hrow] at hcp
    obtain ⟨h5, hev5⟩ := h4.setRow (x := WS.over (t.slots a s) (WS.pad l) kn) hM3 (over_len (h.slots.len a s) (pad_len l) (by omega)) (over_byt _ (h.slots.byt a s) (pad_byt hl.2))
    have HC := Lib.hid hcp
    have hdead : (w4.setRow g (bys (WS.over (t.slots a s) (WS.pad l) kn)).toArray).cell? ⟨b, 9, none⟩ = some (.bool (t.takes 272).dead) := by
      have := blk_cell h5.cell 9
      simpa [wcells, WS.setSlot, note_takes_dead] using this
    clear hcp hrow hg4 hnF hnF2 hsrc
    generalize hW : w4.setRow g (bys (WS.over (t.slots a s) (WS.pad l) kn)).toArray = W at *
    clear hW
    refine seq_nil ?_
    apply last_act
    · (simp only [List.getElem?_toArray, List.getElem?_cons_succ, List.getElem?_cons_zero]; rfl)
    · rfl
    refine wp_val (run_op_copy rfl HC.out) ?_
    try simp only [Act.put, List.setIfInBounds_toArray, List.set_cons_zero, List.set_cons_succ]
    go_wp2
    go_ret
    have hz1 := hev1.size
    have hz2 := hev2.size
    have hnew : ∀ x, Plus (Plus F w w1) w2.drew w3 x → F x ∨ w.heap.size ≤ x := by
      rintro x ((hx | hx) | hx)
      · exact .inl hx
      · exact .inr hx.1
      · exact .inr (by omega)
    have hnew1 : ∀ x, Plus F w w1 x → F x ∨ w.heap.size ≤ x := fun x hx => hnew x (.inl hx)
    refine ⟨Plus (Plus F w w1) w2.drew w3, rfl, ⟨⟨⟨ms, ml, s0, s1, tv', M', L, bs', ?_⟩, ?_⟩, ?_, hnew, fun k hk => .inl (.inl hk)⟩⟩
    · have e : (((t.note 2 a s l).takes 272).setSlot a s (WS.over (t.slots a s) (WS.pad l) (t.takesN 272))) = ((t.note 2 a s l).takes 272).setSlot a s (WS.over (t.slots a s) (WS.pad l) kn) := by
        have : t.takesN 272 = (kn : Int) := HK.out
        rw [this]
      rw [e]
      exact h5
    · have e1 : ((((t.note 2 a s l).takes 272).setSlot a s (WS.over (t.slots a s) (WS.pad l) (t.takesN 272)))).reads = t.reads := takes_reads _ _
      have e2 : ((((t.note 2 a s l).takes 272).setSlot a s (WS.over (t.slots a s) (WS.pad l) (t.takesN 272)))).trace = t.trace ++ [⟨2, a, s, l⟩] := takes_trace _ _
      rw [e1, e2]
      simp
      omega
    · exact ((((hev1.trans hev2 (fun _ hf => hf.elim)).trans hev3 hnew1).trans hev4 hnew).trans hev5 hnew)
end

end Go.Proofs.Ytnndkameadlkdaa
