/- The contracts of World.Seal and world.New, said of a world as data. -/
import Derived.Test.YtnndkameadlkdaaOpsE
namespace Go.Proofs.Ytnndkameadlkdaa
open Go.RowKit

theorem takes_seals (t : WS) (n : Int) : (t.takes n).seals = t.seals := by unfold WS.takes; split <;> rfl

theorem sealTo_short {old l : List Int} {k : Nat} (h : ¬ (k < l.length ∧ k < old.length)) : WS.sealTo old l k = l.take k := by
  unfold WS.sealTo
  rw [if_neg (by omega)]
  simp

theorem sealTo_okb {old l : List Int} {k : Nat} (hl : Okb l) (ho : Okb old) (hk : k ≤ l.length) : Okb (WS.sealTo old l k) := by
  refine ⟨?_, fun x hx => ?_⟩
  · have h1 := hl.1
    have h2 := ho.1
    unfold WS.sealTo
    rw [List.length_append, List.length_take]
    split
    · rw [List.length_drop]
      rename_i h3
      have := h3.2
      simp only [Int.toNat_natCast]
      omega
    · simp only [Int.toNat_natCast, List.length_nil]
      omega
  · rcases List.mem_append.1 hx with hx | hx
    · exact hl.2 x (List.mem_of_mem_take hx)
    · split at hx
      · exact ho.2 x (List.mem_of_mem_drop hx)
      · cases hx

theorem Src.drop {w : World} {n k c : Nat} {A : Option Addr} {xs : List Value} (h : Src w 1 (.slice A n c) n xs) (hk : k < n) : Src w 1 (.slice (A.map (fun x => x.add k)) (n - k) (c - k)) (n - k) (xs.drop k) := by
  obtain ⟨A', c', he, hnc, hl, hc⟩ := h
  cases he
  refine ⟨_, _, rfl, by omega, by simp [hl], fun j u hu => ?_⟩
  rw [List.getElem?_drop] at hu
  obtain ⟨ad, rfl, h1⟩ := hc _ u hu
  exact ⟨_, rfl, by rw [add_add']; exact h1⟩

section
variable {w : World} {b : Nat} {t : WS} {F : Nat → Prop}

set_option maxRecDepth 100000 in
set_option maxHeartbeats 400000 in
theorem R_seal (hR : Rep w b t F) (i : Int) (bv : Value) (l : List Int) (hs : Src w 1 bv l.length (bys l)) (hl : Okb l) (hF : ∀ ad n c, bv = .slice (some ad) n c → 0 < n → ad.block < w.heap.size ∧ ¬ F ad.block) (hsm : t.trace.length < 900000) :
    Calls Try.prog 21 #[wp0 b, .int .i64 i, bv] w fun e w' => ∃ F', e = .returned (.bool (t.sealB i l)) ∧ Goes w F b (t.sealing i l) w' F' := by
  have hR0 := hR
  obtain ⟨⟨ms, ml, s0, s1, tv, M, L, bs, h⟩, hrd⟩ := hR
  obtain ⟨i5, hi5, hz5, hs5, hb5⟩ := info_parts Try.info5
  cases hth : t.sealed i with
  | false =>
    have H := sealed_not hth
    have e1 : t.sealB i l = false := by simp [WS.sealB, hth]
    have e2 : t.sealing i l = t := by simp [WS.sealing, hth]
    rw [e1, e2]
    clear e1 e2
    go_enter Try.func21, Try.ntmps21
    go_wp2_with fail
    refine (sealed_no b i t.dead w (blk_cell h.cell 9) H).mono ?_
    rintro e w' ⟨rfl, rfl⟩
    go_wp2_with fail
    go_ret
    exact ⟨F, rfl, Goes.refl hR0⟩
  | true =>
    obtain ⟨H1, H4⟩ := sealed_of hth
    have e1 : t.sealB i l = !(t.takes l.length).dead := by simp [WS.sealB, hth]
    have e2 : t.sealing i l = ((t.note 4 i 0 l).takes l.length).setSeal i (WS.sealTo (t.seals i) l (t.takesN l.length)) := by simp [WS.sealing, hth]
    rw [e1, e2]
    clear e1 e2
    have hd : w.cell? ⟨b, 9, none⟩ = some (.bool false) := by have := blk_cell h.cell 9; simpa [wcells, H1] using this
    have HD := Lib.hid H1
    have hs0 := hs
    obtain ⟨A0, c0, rfl, hc0, _, _⟩ := hs0
    have hp : 0 ≤ (t.note 4 i 0 l).takesN l.length := takesN_nonneg h.power0 (by omega)
    obtain ⟨kn, HK⟩ : ∃ kn : Nat, Hid ((t.note 4 i 0 l).takesN l.length = (kn : Int)) := ⟨((t.note 4 i 0 l).takesN l.length).toNat, (Int.toNat_of_nonneg hp).symm⟩
    have hkl : kn ≤ l.length := by have h5 := HK.out; have h6 := takesN_le (t := t.note 4 i 0 l) (n := l.length); omega
    have hlen := hl.1
    have HD1 : Hid ((t.note 4 i 0 l).dead = false) := H1
    have hkc : (kn : Int) ≤ (c0 : Int) := by omega
    clear hp H1
    by_cases hk : kn < l.length ∧ kn < (t.seals i).length
    · obtain ⟨hk1, hk2⟩ := hk
      rcases H4 with rfl | rfl
      · go_enter Try.func21, Try.ntmps21
        go_wp2_with fail
        refine (sealed_yes b _ w hd (by simp)).mono ?_
        rintro e w' ⟨rfl, rfl⟩
        go_wp2_with fail
        refine (R_note h 4 _ 0 _ l hs hl hsm).mono ?_
        rintro e w1 ⟨rfl, tv', bs', h1, hev1⟩
        go_wp2_with fail
        refine (R_takes h1 l.length (by omega) (by omega) HD1.out).mono ?_
        rintro e w2 ⟨rfl, h2, hev2, _, _, _⟩
        rw [HK.out]
        have hs2 : Src w2 1 (.slice A0 l.length c0) l.length (bys l) := (hs.evo0 hev1 (fun ad c e hn => (hF ad _ c e hn).2)).evo0 hev2 (fun ad c e hn hf => by
          rcases hf with hf | hf
          · exact (hF ad _ c e hn).2 hf
          · have := (hF ad _ c e hn).1; omega)
        have hst := hs2.take (k := kn) hkl rfl
        rw [bys_take] at hst
        obtain ⟨A3, c3, w3, hrun3, hown3, hg3⟩ := run_append_fresh (P := Try.prog) w2 22 22 5 i5 _ 1 1 Try.underlying22 hi5 hz5 hs5 hb5 rfl (by omega) _ kn _ hst (bys_one _) (by simp only [maxLen]; omega) (by omega)
        have hevn : Evo (fun _ => False) w2 w3 := (Evo.refl _ w2).grown hg3 (by simp)
        have h3 := h2.apart hevn (fun _ _ hf => hf)
        have so : Own w3 (Plus F w w1) 5 s0 (t.seals 0) := by have := h3.seal0; rwa [takes_seals] at this
        have c2 := blk_cell h3.cell 2
        have f2 := blk_frozen h3.cell 2
        have G1 := Lib.hid hrun3
        simp only [wcells] at c2
        obtain ⟨As, cs, hse, hcs⟩ := ownsRow_slice so.1
        have c2' : w3.cell? ⟨b, 2, none⟩ = some (.slice As (t.seals 0).length cs) := by rw [← hse]; exact c2
        have hsd := (hse ▸ so.src : Src w3 1 (.slice As (t.seals 0).length cs) (t.seals 0).length (bys (t.seals 0))).drop (k := kn) (by omega)
        rw [← bys_drop] at hsd
        obtain ⟨v4, w4, hrun4, hown4, hg4, hat4⟩ := run_append_src (P := Try.prog) w3 w2.heap.size 22 22 5 i5 _ 1 1 Try.underlying22 hi5 hz5 hs5 hb5 rfl (by omega) _ kn _ hown3 _ _ _ hsd (bys_one _) (by have := h.ok0.1; simp only [maxLen]; omega) (by have := h.ok0.1; omega) hg3.size
        obtain ⟨A4, c4n, rfl, _⟩ := ownsRow_slice hown4
        have hbase : ∀ g, (Value.slice A3 kn c3).ownBlock = some g → w2.heap.size ≤ g := fun g hg => (hown3.lt g hg).1
        have hevn4 : Evo (fun _ => False) w2 w4 := hevn.grown hg4 (fun g hg => .inr (hbase g hg))
        have h4 := h2.apart hevn4 (fun _ _ hf => hf)
        have c4 := blk_cell h4.cell 2
        have f4 := blk_frozen h4.cell 2
        simp only [wcells] at c4
        have c4' : w4.cell? ⟨b, 2, none⟩ = some (.slice As (t.seals 0).length cs) := by rw [← hse]; exact c4
        have hx : bys (l.take kn) ++ bys ((t.seals 0).drop kn) = bys (WS.sealTo (t.seals 0) l kn) := by
          rw [← bys_append]
          simp [WS.sealTo, hk1, hk2]
        have hxl : kn + ((t.seals 0).length - kn) = (WS.sealTo (t.seals 0) l kn).length := by
          simp [WS.sealTo, hk1, hk2]; omega
        rw [hx, hxl] at hown4
        rw [hxl] at hrun4
        have hF4 : ∀ k, Plus F w w1 k → Plus (Plus F w w1) w2 w4 k := fun _ hf => .inl hf
        have hz4 := hevn4.size
        have h4m := h4.mono hF4 (by
          rintro k (hf | hf)
          · exact h4.lt k hf
          · exact hf.2)
        have ho4 : Own w4 (Plus (Plus F w w1) w2 w4) 5 (.slice A4 (WS.sealTo (t.seals 0) l kn).length c4n) (WS.sealTo (t.seals 0) l kn) := ⟨ownsRow_base hown4 (fun _ _ => Nat.zero_le _), fun g hg => .inr (hown4.lt g hg)⟩
        obtain ⟨s0', s1', h5⟩ := h4m.setSeal 0 (by simp) ho4 (sealTo_okb hl h.ok0 (by omega))
        obtain ⟨W, HW⟩ : ∃ W, Hid (w4.setCell ⟨b, 2, none⟩ (.slice A4 (WS.sealTo (t.seals 0) l kn).length c4n) = W) := ⟨_, rfl⟩
        have hW : w4.setCell ⟨b, 2 + (0 : Int).toNat, none⟩ (.slice A4 (WS.sealTo (t.seals 0) l kn).length c4n) = W := HW.out
        rw [hW] at h5
        have hevW : Evo (Plus (Plus F w w1) w2 w4) w4 W := by rw [← HW.out]; exact (Evo.refl _ w4).setCell (.inl h4m.fb) _
        have c9 : w4.cell? ⟨b, 9, none⟩ = some (.bool (t.takes l.length).dead) := by
          have := blk_cell h4.cell 9
          simpa [wcells, note_takes_dead] using this
        have G2 := Lib.hid hrun4
        have tok1 : True := trivial
        clear c2 c4 hrun3 hrun4 hsd hx hst hs2 hbase hat4 hW hxl hse hF4 h4m ho4 hown4
        go_wp2_with (first | (at_builtin; have _t := tok1; refine wpList_run rfl (run_op_append rfl G1.out) ?_; clear _t tok1) | (at_builtin; refine wpList_run rfl (run_op_append rfl G2.out) ?_))
        rw [HW.out]
        go_ret
        have hz1 := hev1.size
        have hz2 := hev2.size
        have hnew1 : ∀ x, Plus F w w1 x → F x ∨ w.heap.size ≤ x := by
          rintro x (hx | hx)
          · exact .inl hx
          · exact .inr hx.1
        have hnew : ∀ x, Plus (Plus F w w1) w2 w4 x → F x ∨ w.heap.size ≤ x := by
          rintro x (hx | hx)
          · exact hnew1 x hx
          · exact .inr (by omega)
        refine ⟨Plus (Plus F w w1) w2 w4, rfl, ⟨⟨⟨ms, ml, s0', s1', tv', M, L, bs', ?_⟩, ?_⟩, ?_, hnew, fun k hk => .inl (.inl hk)⟩⟩
        · have : t.takesN l.length = (kn : Int) := HK.out
          rw [this]
          exact h5
        · show (((t.note 4 0 0 l).takes l.length)).reads ≤ ((((t.note 4 0 0 l).takes l.length)).trace.length : Nat)
          rw [takes_reads, takes_trace]
          simp [WS.note]
          omega
        · exact ((hev1.trans hev2 hnew1).trans hevn4 (fun _ hf => hf.elim)).trans hevW hnew
      · go_enter Try.func21, Try.ntmps21
        go_wp2_with fail
        refine (sealed_yes b _ w hd (by simp)).mono ?_
        rintro e w' ⟨rfl, rfl⟩
        go_wp2_with fail
        refine (R_note h 4 _ 0 _ l hs hl hsm).mono ?_
        rintro e w1 ⟨rfl, tv', bs', h1, hev1⟩
        go_wp2_with fail
        refine (R_takes h1 l.length (by omega) (by omega) HD1.out).mono ?_
        rintro e w2 ⟨rfl, h2, hev2, _, _, _⟩
        rw [HK.out]
        have hs2 : Src w2 1 (.slice A0 l.length c0) l.length (bys l) := (hs.evo0 hev1 (fun ad c e hn => (hF ad _ c e hn).2)).evo0 hev2 (fun ad c e hn hf => by
          rcases hf with hf | hf
          · exact (hF ad _ c e hn).2 hf
          · have := (hF ad _ c e hn).1; omega)
        have hst := hs2.take (k := kn) hkl rfl
        rw [bys_take] at hst
        obtain ⟨A3, c3, w3, hrun3, hown3, hg3⟩ := run_append_fresh (P := Try.prog) w2 22 22 5 i5 _ 1 1 Try.underlying22 hi5 hz5 hs5 hb5 rfl (by omega) _ kn _ hst (bys_one _) (by simp only [maxLen]; omega) (by omega)
        have hevn : Evo (fun _ => False) w2 w3 := (Evo.refl _ w2).grown hg3 (by simp)
        have h3 := h2.apart hevn (fun _ _ hf => hf)
        have so : Own w3 (Plus F w w1) 5 s1 (t.seals 1) := by have := h3.seal1; rwa [takes_seals] at this
        have c2 := blk_cell h3.cell 3
        have f2 := blk_frozen h3.cell 3
        have G1 := Lib.hid hrun3
        simp only [wcells] at c2
        obtain ⟨As, cs, hse, hcs⟩ := ownsRow_slice so.1
        have c2' : w3.cell? ⟨b, 3, none⟩ = some (.slice As (t.seals 1).length cs) := by rw [← hse]; exact c2
        have hsd := (hse ▸ so.src : Src w3 1 (.slice As (t.seals 1).length cs) (t.seals 1).length (bys (t.seals 1))).drop (k := kn) (by omega)
        rw [← bys_drop] at hsd
        obtain ⟨v4, w4, hrun4, hown4, hg4, hat4⟩ := run_append_src (P := Try.prog) w3 w2.heap.size 22 22 5 i5 _ 1 1 Try.underlying22 hi5 hz5 hs5 hb5 rfl (by omega) _ kn _ hown3 _ _ _ hsd (bys_one _) (by have := h.ok1.1; simp only [maxLen]; omega) (by have := h.ok1.1; omega) hg3.size
        obtain ⟨A4, c4n, rfl, _⟩ := ownsRow_slice hown4
        have hbase : ∀ g, (Value.slice A3 kn c3).ownBlock = some g → w2.heap.size ≤ g := fun g hg => (hown3.lt g hg).1
        have hevn4 : Evo (fun _ => False) w2 w4 := hevn.grown hg4 (fun g hg => .inr (hbase g hg))
        have h4 := h2.apart hevn4 (fun _ _ hf => hf)
        have c4 := blk_cell h4.cell 3
        have f4 := blk_frozen h4.cell 3
        simp only [wcells] at c4
        have c4' : w4.cell? ⟨b, 3, none⟩ = some (.slice As (t.seals 1).length cs) := by rw [← hse]; exact c4
        have hx : bys (l.take kn) ++ bys ((t.seals 1).drop kn) = bys (WS.sealTo (t.seals 1) l kn) := by
          rw [← bys_append]
          simp [WS.sealTo, hk1, hk2]
        have hxl : kn + ((t.seals 1).length - kn) = (WS.sealTo (t.seals 1) l kn).length := by
          simp [WS.sealTo, hk1, hk2]; omega
        rw [hx, hxl] at hown4
        rw [hxl] at hrun4
        have hF4 : ∀ k, Plus F w w1 k → Plus (Plus F w w1) w2 w4 k := fun _ hf => .inl hf
        have hz4 := hevn4.size
        have h4m := h4.mono hF4 (by
          rintro k (hf | hf)
          · exact h4.lt k hf
          · exact hf.2)
        have ho4 : Own w4 (Plus (Plus F w w1) w2 w4) 5 (.slice A4 (WS.sealTo (t.seals 1) l kn).length c4n) (WS.sealTo (t.seals 1) l kn) := ⟨ownsRow_base hown4 (fun _ _ => Nat.zero_le _), fun g hg => .inr (hown4.lt g hg)⟩
        obtain ⟨s0', s1', h5⟩ := h4m.setSeal 1 (by simp) ho4 (sealTo_okb hl h.ok1 (by omega))
        obtain ⟨W, HW⟩ : ∃ W, Hid (w4.setCell ⟨b, 3, none⟩ (.slice A4 (WS.sealTo (t.seals 1) l kn).length c4n) = W) := ⟨_, rfl⟩
        have hW : w4.setCell ⟨b, 2 + (1 : Int).toNat, none⟩ (.slice A4 (WS.sealTo (t.seals 1) l kn).length c4n) = W := HW.out
        rw [hW] at h5
        have hevW : Evo (Plus (Plus F w w1) w2 w4) w4 W := by rw [← HW.out]; exact (Evo.refl _ w4).setCell (.inl h4m.fb) _
        have c9 : w4.cell? ⟨b, 9, none⟩ = some (.bool (t.takes l.length).dead) := by
          have := blk_cell h4.cell 9
          simpa [wcells, note_takes_dead] using this
        have G2 := Lib.hid hrun4
        have tok1 : True := trivial
        clear c2 c4 hrun3 hrun4 hsd hx hst hs2 hbase hat4 hW hxl hse hF4 h4m ho4 hown4
        go_wp2_with (first | (at_builtin; have _t := tok1; refine wpList_run rfl (run_op_append rfl G1.out) ?_; clear _t tok1) | (at_builtin; refine wpList_run rfl (run_op_append rfl G2.out) ?_))
        rw [HW.out]
        go_ret
        have hz1 := hev1.size
        have hz2 := hev2.size
        have hnew1 : ∀ x, Plus F w w1 x → F x ∨ w.heap.size ≤ x := by
          rintro x (hx | hx)
          · exact .inl hx
          · exact .inr hx.1
        have hnew : ∀ x, Plus (Plus F w w1) w2 w4 x → F x ∨ w.heap.size ≤ x := by
          rintro x (hx | hx)
          · exact hnew1 x hx
          · exact .inr (by omega)
        refine ⟨Plus (Plus F w w1) w2 w4, rfl, ⟨⟨⟨ms, ml, s0', s1', tv', M, L, bs', ?_⟩, ?_⟩, ?_, hnew, fun k hk => .inl (.inl hk)⟩⟩
        · have : t.takesN l.length = (kn : Int) := HK.out
          rw [this]
          exact h5
        · show (((t.note 4 1 0 l).takes l.length)).reads ≤ ((((t.note 4 1 0 l).takes l.length)).trace.length : Nat)
          rw [takes_reads, takes_trace]
          simp [WS.note]
          omega
        · exact ((hev1.trans hev2 hnew1).trans hevn4 (fun _ hf => hf.elim)).trans hevW hnew
    · rcases Nat.lt_or_ge kn l.length with hk1 | hk1
      · have hk2 : (t.seals i).length ≤ kn := by rcases Nat.lt_or_ge kn (t.seals i).length with h5 | h5; exact absurd ⟨hk1, h5⟩ hk; exact h5
        clear hk
        rcases H4 with rfl | rfl
        · go_enter Try.func21, Try.ntmps21
          go_wp2_with fail
          refine (sealed_yes b _ w hd (by simp)).mono ?_
          rintro e w' ⟨rfl, rfl⟩
          go_wp2_with fail
          refine (R_note h 4 _ 0 _ l hs hl hsm).mono ?_
          rintro e w1 ⟨rfl, tv', bs', h1, hev1⟩
          go_wp2_with fail
          refine (R_takes h1 l.length (by omega) (by omega) HD1.out).mono ?_
          rintro e w2 ⟨rfl, h2, hev2, _, _, _⟩
          rw [HK.out]
          have hs2 : Src w2 1 (.slice A0 l.length c0) l.length (bys l) := (hs.evo0 hev1 (fun ad c e hn => (hF ad _ c e hn).2)).evo0 hev2 (fun ad c e hn hf => by
            rcases hf with hf | hf
            · exact (hF ad _ c e hn).2 hf
            · have := (hF ad _ c e hn).1; omega)
          have hst := hs2.take (k := kn) hkl rfl
          rw [bys_take] at hst
          obtain ⟨A3, c3, w3, hrun3, hown3, hg3⟩ := run_append_fresh (P := Try.prog) w2 22 22 5 i5 _ 1 1 Try.underlying22 hi5 hz5 hs5 hb5 rfl (by omega) _ kn _ hst (bys_one _) (by simp only [maxLen]; omega) (by omega)
          have hevn : Evo (fun _ => False) w2 w3 := (Evo.refl _ w2).grown hg3 (by simp)
          have h3 := h2.apart hevn (fun _ _ hf => hf)
          have so : Own w3 (Plus F w w1) 5 s0 (t.seals 0) := by have := h3.seal0; rwa [takes_seals] at this
          have c2 := blk_cell h3.cell 2
          have f2 := blk_frozen h3.cell 2
          have G1 := Lib.hid hrun3
          simp only [wcells] at c2
          obtain ⟨As, cs, hse, hcs⟩ := ownsRow_slice so.1
          have c2' : w3.cell? ⟨b, 2, none⟩ = some (.slice As (t.seals 0).length cs) := by rw [← hse]; exact c2
          have hx : l.take kn = WS.sealTo (t.seals 0) l kn := by
            exact (sealTo_short (by omega)).symm
          have hxl : kn = (WS.sealTo (t.seals 0) l kn).length := by
            rw [← hx, List.length_take]; omega
          rw [hx] at hown3
          have hown4 : w3.ownsRow w2.heap.size 5 1 (.slice A3 kn c3) (WS.sealTo (t.seals 0) l kn).length (bys (WS.sealTo (t.seals 0) l kn)) := by rw [← hxl]; exact hown3
          have hF4 : ∀ k, Plus F w w1 k → Plus (Plus F w w1) w2 w3 k := fun _ hf => .inl hf
          have hz4 := hevn.size
          have h4m := h3.mono hF4 (by
            rintro k (hf | hf)
            · exact h3.lt k hf
            · exact hf.2)
          have ho4 : Own w3 (Plus (Plus F w w1) w2 w3) 5 (.slice A3 kn c3) (WS.sealTo (t.seals 0) l kn) := ⟨ownsRow_base hown4 (fun _ _ => Nat.zero_le _), fun g hg => .inr (hown4.lt g hg)⟩
          obtain ⟨s0', s1', h5⟩ := h4m.setSeal 0 (by simp) ho4 (sealTo_okb hl h.ok0 (by omega))
          obtain ⟨W, HW⟩ : ∃ W, Hid (w3.setCell ⟨b, 2, none⟩ (.slice A3 kn c3) = W) := ⟨_, rfl⟩
          have hW : w3.setCell ⟨b, 2 + (0 : Int).toNat, none⟩ (.slice A3 kn c3) = W := HW.out
          rw [hW] at h5
          have hevW : Evo (Plus (Plus F w w1) w2 w3) w3 W := by rw [← HW.out]; exact (Evo.refl _ w3).setCell (.inl h4m.fb) _
          have c9 : w3.cell? ⟨b, 9, none⟩ = some (.bool (t.takes l.length).dead) := by
            have := blk_cell h3.cell 9
            simpa [wcells, note_takes_dead] using this
          clear c2 hrun3 hx hst hs2 hW hxl hse hF4 h4m ho4 hown4 hown3
          go_wp2_with (at_builtin; refine wpList_run rfl (run_op_append rfl G1.out) ?_)
          rw [HW.out]
          go_ret
          have hz1 := hev1.size
          have hz2 := hev2.size
          have hnew1 : ∀ x, Plus F w w1 x → F x ∨ w.heap.size ≤ x := by
            rintro x (hx | hx)
            · exact .inl hx
            · exact .inr hx.1
          have hnew : ∀ x, Plus (Plus F w w1) w2 w3 x → F x ∨ w.heap.size ≤ x := by
            rintro x (hx | hx)
            · exact hnew1 x hx
            · exact .inr (by omega)
          refine ⟨Plus (Plus F w w1) w2 w3, rfl, ⟨⟨⟨ms, ml, s0', s1', tv', M, L, bs', ?_⟩, ?_⟩, ?_, hnew, fun k hk => .inl (.inl hk)⟩⟩
          · have : t.takesN l.length = (kn : Int) := HK.out
            rw [this]
            exact h5
          · show (((t.note 4 0 0 l).takes l.length)).reads ≤ ((((t.note 4 0 0 l).takes l.length)).trace.length : Nat)
            rw [takes_reads, takes_trace]
            simp [WS.note]
            omega
          · exact ((hev1.trans hev2 hnew1).trans hevn (fun _ hf => hf.elim)).trans hevW hnew
        · go_enter Try.func21, Try.ntmps21
          go_wp2_with fail
          refine (sealed_yes b _ w hd (by simp)).mono ?_
          rintro e w' ⟨rfl, rfl⟩
          go_wp2_with fail
          refine (R_note h 4 _ 0 _ l hs hl hsm).mono ?_
          rintro e w1 ⟨rfl, tv', bs', h1, hev1⟩
          go_wp2_with fail
          refine (R_takes h1 l.length (by omega) (by omega) HD1.out).mono ?_
          rintro e w2 ⟨rfl, h2, hev2, _, _, _⟩
          rw [HK.out]
          have hs2 : Src w2 1 (.slice A0 l.length c0) l.length (bys l) := (hs.evo0 hev1 (fun ad c e hn => (hF ad _ c e hn).2)).evo0 hev2 (fun ad c e hn hf => by
            rcases hf with hf | hf
            · exact (hF ad _ c e hn).2 hf
            · have := (hF ad _ c e hn).1; omega)
          have hst := hs2.take (k := kn) hkl rfl
          rw [bys_take] at hst
          obtain ⟨A3, c3, w3, hrun3, hown3, hg3⟩ := run_append_fresh (P := Try.prog) w2 22 22 5 i5 _ 1 1 Try.underlying22 hi5 hz5 hs5 hb5 rfl (by omega) _ kn _ hst (bys_one _) (by simp only [maxLen]; omega) (by omega)
          have hevn : Evo (fun _ => False) w2 w3 := (Evo.refl _ w2).grown hg3 (by simp)
          have h3 := h2.apart hevn (fun _ _ hf => hf)
          have so : Own w3 (Plus F w w1) 5 s1 (t.seals 1) := by have := h3.seal1; rwa [takes_seals] at this
          have c2 := blk_cell h3.cell 3
          have f2 := blk_frozen h3.cell 3
          have G1 := Lib.hid hrun3
          simp only [wcells] at c2
          obtain ⟨As, cs, hse, hcs⟩ := ownsRow_slice so.1
          have c2' : w3.cell? ⟨b, 3, none⟩ = some (.slice As (t.seals 1).length cs) := by rw [← hse]; exact c2
          have hx : l.take kn = WS.sealTo (t.seals 1) l kn := by
            exact (sealTo_short (by omega)).symm
          have hxl : kn = (WS.sealTo (t.seals 1) l kn).length := by
            rw [← hx, List.length_take]; omega
          rw [hx] at hown3
          have hown4 : w3.ownsRow w2.heap.size 5 1 (.slice A3 kn c3) (WS.sealTo (t.seals 1) l kn).length (bys (WS.sealTo (t.seals 1) l kn)) := by rw [← hxl]; exact hown3
          have hF4 : ∀ k, Plus F w w1 k → Plus (Plus F w w1) w2 w3 k := fun _ hf => .inl hf
          have hz4 := hevn.size
          have h4m := h3.mono hF4 (by
            rintro k (hf | hf)
            · exact h3.lt k hf
            · exact hf.2)
          have ho4 : Own w3 (Plus (Plus F w w1) w2 w3) 5 (.slice A3 kn c3) (WS.sealTo (t.seals 1) l kn) := ⟨ownsRow_base hown4 (fun _ _ => Nat.zero_le _), fun g hg => .inr (hown4.lt g hg)⟩
          obtain ⟨s0', s1', h5⟩ := h4m.setSeal 1 (by simp) ho4 (sealTo_okb hl h.ok1 (by omega))
          obtain ⟨W, HW⟩ : ∃ W, Hid (w3.setCell ⟨b, 3, none⟩ (.slice A3 kn c3) = W) := ⟨_, rfl⟩
          have hW : w3.setCell ⟨b, 2 + (1 : Int).toNat, none⟩ (.slice A3 kn c3) = W := HW.out
          rw [hW] at h5
          have hevW : Evo (Plus (Plus F w w1) w2 w3) w3 W := by rw [← HW.out]; exact (Evo.refl _ w3).setCell (.inl h4m.fb) _
          have c9 : w3.cell? ⟨b, 9, none⟩ = some (.bool (t.takes l.length).dead) := by
            have := blk_cell h3.cell 9
            simpa [wcells, note_takes_dead] using this
          clear c2 hrun3 hx hst hs2 hW hxl hse hF4 h4m ho4 hown4 hown3
          go_wp2_with (at_builtin; refine wpList_run rfl (run_op_append rfl G1.out) ?_)
          rw [HW.out]
          go_ret
          have hz1 := hev1.size
          have hz2 := hev2.size
          have hnew1 : ∀ x, Plus F w w1 x → F x ∨ w.heap.size ≤ x := by
            rintro x (hx | hx)
            · exact .inl hx
            · exact .inr hx.1
          have hnew : ∀ x, Plus (Plus F w w1) w2 w3 x → F x ∨ w.heap.size ≤ x := by
            rintro x (hx | hx)
            · exact hnew1 x hx
            · exact .inr (by omega)
          refine ⟨Plus (Plus F w w1) w2 w3, rfl, ⟨⟨⟨ms, ml, s0', s1', tv', M, L, bs', ?_⟩, ?_⟩, ?_, hnew, fun k hk => .inl (.inl hk)⟩⟩
          · have : t.takesN l.length = (kn : Int) := HK.out
            rw [this]
            exact h5
          · show (((t.note 4 1 0 l).takes l.length)).reads ≤ ((((t.note 4 1 0 l).takes l.length)).trace.length : Nat)
            rw [takes_reads, takes_trace]
            simp [WS.note]
            omega
          · exact ((hev1.trans hev2 hnew1).trans hevn (fun _ hf => hf.elim)).trans hevW hnew
      · clear hk
        rcases H4 with rfl | rfl
        · go_enter Try.func21, Try.ntmps21
          go_wp2_with fail
          refine (sealed_yes b _ w hd (by simp)).mono ?_
          rintro e w' ⟨rfl, rfl⟩
          go_wp2_with fail
          refine (R_note h 4 _ 0 _ l hs hl hsm).mono ?_
          rintro e w1 ⟨rfl, tv', bs', h1, hev1⟩
          go_wp2_with fail
          refine (R_takes h1 l.length (by omega) (by omega) HD1.out).mono ?_
          rintro e w2 ⟨rfl, h2, hev2, _, _, _⟩
          rw [HK.out]
          have hs2 : Src w2 1 (.slice A0 l.length c0) l.length (bys l) := (hs.evo0 hev1 (fun ad c e hn => (hF ad _ c e hn).2)).evo0 hev2 (fun ad c e hn hf => by
            rcases hf with hf | hf
            · exact (hF ad _ c e hn).2 hf
            · have := (hF ad _ c e hn).1; omega)
          have hst := hs2.take (k := kn) hkl rfl
          rw [bys_take] at hst
          obtain ⟨A3, c3, w3, hrun3, hown3, hg3⟩ := run_append_fresh (P := Try.prog) w2 22 22 5 i5 _ 1 1 Try.underlying22 hi5 hz5 hs5 hb5 rfl (by omega) _ kn _ hst (bys_one _) (by simp only [maxLen]; omega) (by omega)
          have hevn : Evo (fun _ => False) w2 w3 := (Evo.refl _ w2).grown hg3 (by simp)
          have h3 := h2.apart hevn (fun _ _ hf => hf)
          have so : Own w3 (Plus F w w1) 5 s0 (t.seals 0) := by have := h3.seal0; rwa [takes_seals] at this
          have c2 := blk_cell h3.cell 2
          have f2 := blk_frozen h3.cell 2
          have G1 := Lib.hid hrun3
          simp only [wcells] at c2
          obtain ⟨As, cs, hse, hcs⟩ := ownsRow_slice so.1
          have c2' : w3.cell? ⟨b, 2, none⟩ = some (.slice As (t.seals 0).length cs) := by rw [← hse]; exact c2
          have hx : l.take kn = WS.sealTo (t.seals 0) l kn := by
            exact (sealTo_short (by omega)).symm
          have hxl : kn = (WS.sealTo (t.seals 0) l kn).length := by
            rw [← hx, List.length_take]; omega
          rw [hx] at hown3
          have hown4 : w3.ownsRow w2.heap.size 5 1 (.slice A3 kn c3) (WS.sealTo (t.seals 0) l kn).length (bys (WS.sealTo (t.seals 0) l kn)) := by rw [← hxl]; exact hown3
          have hF4 : ∀ k, Plus F w w1 k → Plus (Plus F w w1) w2 w3 k := fun _ hf => .inl hf
          have hz4 := hevn.size
          have h4m := h3.mono hF4 (by
            rintro k (hf | hf)
            · exact h3.lt k hf
            · exact hf.2)
          have ho4 : Own w3 (Plus (Plus F w w1) w2 w3) 5 (.slice A3 kn c3) (WS.sealTo (t.seals 0) l kn) := ⟨ownsRow_base hown4 (fun _ _ => Nat.zero_le _), fun g hg => .inr (hown4.lt g hg)⟩
          obtain ⟨s0', s1', h5⟩ := h4m.setSeal 0 (by simp) ho4 (sealTo_okb hl h.ok0 (by omega))
          obtain ⟨W, HW⟩ : ∃ W, Hid (w3.setCell ⟨b, 2, none⟩ (.slice A3 kn c3) = W) := ⟨_, rfl⟩
          have hW : w3.setCell ⟨b, 2 + (0 : Int).toNat, none⟩ (.slice A3 kn c3) = W := HW.out
          rw [hW] at h5
          have hevW : Evo (Plus (Plus F w w1) w2 w3) w3 W := by rw [← HW.out]; exact (Evo.refl _ w3).setCell (.inl h4m.fb) _
          have c9 : w3.cell? ⟨b, 9, none⟩ = some (.bool (t.takes l.length).dead) := by
            have := blk_cell h3.cell 9
            simpa [wcells, note_takes_dead] using this
          clear c2 hrun3 hx hst hs2 hW hxl hse hF4 h4m ho4 hown4 hown3
          go_wp2_with (at_builtin; refine wpList_run rfl (run_op_append rfl G1.out) ?_)
          rw [HW.out]
          go_ret
          have hz1 := hev1.size
          have hz2 := hev2.size
          have hnew1 : ∀ x, Plus F w w1 x → F x ∨ w.heap.size ≤ x := by
            rintro x (hx | hx)
            · exact .inl hx
            · exact .inr hx.1
          have hnew : ∀ x, Plus (Plus F w w1) w2 w3 x → F x ∨ w.heap.size ≤ x := by
            rintro x (hx | hx)
            · exact hnew1 x hx
            · exact .inr (by omega)
          refine ⟨Plus (Plus F w w1) w2 w3, rfl, ⟨⟨⟨ms, ml, s0', s1', tv', M, L, bs', ?_⟩, ?_⟩, ?_, hnew, fun k hk => .inl (.inl hk)⟩⟩
          · have : t.takesN l.length = (kn : Int) := HK.out
            rw [this]
            exact h5
          · show (((t.note 4 0 0 l).takes l.length)).reads ≤ ((((t.note 4 0 0 l).takes l.length)).trace.length : Nat)
            rw [takes_reads, takes_trace]
            simp [WS.note]
            omega
          · exact ((hev1.trans hev2 hnew1).trans hevn (fun _ hf => hf.elim)).trans hevW hnew
        · go_enter Try.func21, Try.ntmps21
          go_wp2_with fail
          refine (sealed_yes b _ w hd (by simp)).mono ?_
          rintro e w' ⟨rfl, rfl⟩
          go_wp2_with fail
          refine (R_note h 4 _ 0 _ l hs hl hsm).mono ?_
          rintro e w1 ⟨rfl, tv', bs', h1, hev1⟩
          go_wp2_with fail
          refine (R_takes h1 l.length (by omega) (by omega) HD1.out).mono ?_
          rintro e w2 ⟨rfl, h2, hev2, _, _, _⟩
          rw [HK.out]
          have hs2 : Src w2 1 (.slice A0 l.length c0) l.length (bys l) := (hs.evo0 hev1 (fun ad c e hn => (hF ad _ c e hn).2)).evo0 hev2 (fun ad c e hn hf => by
            rcases hf with hf | hf
            · exact (hF ad _ c e hn).2 hf
            · have := (hF ad _ c e hn).1; omega)
          have hst := hs2.take (k := kn) hkl rfl
          rw [bys_take] at hst
          obtain ⟨A3, c3, w3, hrun3, hown3, hg3⟩ := run_append_fresh (P := Try.prog) w2 22 22 5 i5 _ 1 1 Try.underlying22 hi5 hz5 hs5 hb5 rfl (by omega) _ kn _ hst (bys_one _) (by simp only [maxLen]; omega) (by omega)
          have hevn : Evo (fun _ => False) w2 w3 := (Evo.refl _ w2).grown hg3 (by simp)
          have h3 := h2.apart hevn (fun _ _ hf => hf)
          have so : Own w3 (Plus F w w1) 5 s1 (t.seals 1) := by have := h3.seal1; rwa [takes_seals] at this
          have c2 := blk_cell h3.cell 3
          have f2 := blk_frozen h3.cell 3
          have G1 := Lib.hid hrun3
          simp only [wcells] at c2
          obtain ⟨As, cs, hse, hcs⟩ := ownsRow_slice so.1
          have c2' : w3.cell? ⟨b, 3, none⟩ = some (.slice As (t.seals 1).length cs) := by rw [← hse]; exact c2
          have hx : l.take kn = WS.sealTo (t.seals 1) l kn := by
            exact (sealTo_short (by omega)).symm
          have hxl : kn = (WS.sealTo (t.seals 1) l kn).length := by
            rw [← hx, List.length_take]; omega
          rw [hx] at hown3
          have hown4 : w3.ownsRow w2.heap.size 5 1 (.slice A3 kn c3) (WS.sealTo (t.seals 1) l kn).length (bys (WS.sealTo (t.seals 1) l kn)) := by rw [← hxl]; exact hown3
          have hF4 : ∀ k, Plus F w w1 k → Plus (Plus F w w1) w2 w3 k := fun _ hf => .inl hf
          have hz4 := hevn.size
          have h4m := h3.mono hF4 (by
            rintro k (hf | hf)
            · exact h3.lt k hf
            · exact hf.2)
          have ho4 : Own w3 (Plus (Plus F w w1) w2 w3) 5 (.slice A3 kn c3) (WS.sealTo (t.seals 1) l kn) := ⟨ownsRow_base hown4 (fun _ _ => Nat.zero_le _), fun g hg => .inr (hown4.lt g hg)⟩
          obtain ⟨s0', s1', h5⟩ := h4m.setSeal 1 (by simp) ho4 (sealTo_okb hl h.ok1 (by omega))
          obtain ⟨W, HW⟩ : ∃ W, Hid (w3.setCell ⟨b, 3, none⟩ (.slice A3 kn c3) = W) := ⟨_, rfl⟩
          have hW : w3.setCell ⟨b, 2 + (1 : Int).toNat, none⟩ (.slice A3 kn c3) = W := HW.out
          rw [hW] at h5
          have hevW : Evo (Plus (Plus F w w1) w2 w3) w3 W := by rw [← HW.out]; exact (Evo.refl _ w3).setCell (.inl h4m.fb) _
          have c9 : w3.cell? ⟨b, 9, none⟩ = some (.bool (t.takes l.length).dead) := by
            have := blk_cell h3.cell 9
            simpa [wcells, note_takes_dead] using this
          clear c2 hrun3 hx hst hs2 hW hxl hse hF4 h4m ho4 hown4 hown3
          go_wp2_with (at_builtin; refine wpList_run rfl (run_op_append rfl G1.out) ?_)
          rw [HW.out]
          go_ret
          have hz1 := hev1.size
          have hz2 := hev2.size
          have hnew1 : ∀ x, Plus F w w1 x → F x ∨ w.heap.size ≤ x := by
            rintro x (hx | hx)
            · exact .inl hx
            · exact .inr hx.1
          have hnew : ∀ x, Plus (Plus F w w1) w2 w3 x → F x ∨ w.heap.size ≤ x := by
            rintro x (hx | hx)
            · exact hnew1 x hx
            · exact .inr (by omega)
          refine ⟨Plus (Plus F w w1) w2 w3, rfl, ⟨⟨⟨ms, ml, s0', s1', tv', M, L, bs', ?_⟩, ?_⟩, ?_, hnew, fun k hk => .inl (.inl hk)⟩⟩
          · have : t.takesN l.length = (kn : Int) := HK.out
            rw [this]
            exact h5
          · show (((t.note 4 1 0 l).takes l.length)).reads ≤ ((((t.note 4 1 0 l).takes l.length)).trace.length : Nat)
            rw [takes_reads, takes_trace]
            simp [WS.note]
            omega
          · exact ((hev1.trans hev2 hnew1).trans hevn (fun _ hf => hf.elim)).trans hevW hnew
end

end Go.Proofs.Ytnndkameadlkdaa
