/- The walk of WorldTells. -/
import Derived.Test.YtnndkameadlkdaaLawC
import Derived.Deep.LoopGhost
namespace Go.Proofs.Ytnndkameadlkdaa
open Go.RowKit

/-- What is told, as data. -/
structure TellsData (i s j : Int) (a b l : List Int) (t1 t2 t3 t4 t5 t6 : WS) : Prop where
  w1 : (WS.new 8).writeB i s = true
  w2 : t1.writeB j (1 - s) = true
  r3 : t2.readB i s = WS.pad a
  r5 : t4.readB i s = l
  r6 : t5.readB i s = WS.pad a
  r7 : t6.readB i (1 - s) = if i = j then WS.pad b else zeros272
  n1 : t1.trace.length < 900000
  n2 : t2.trace.length < 900000
  n4 : t4.trace.length < 900000
  n5 : t5.trace.length < 900000
  n6 : t6.trace.length < 900000

theorem tells_data (i s j : Int) (a b l : List Int) (hi : 0 ≤ i ∧ i < 8) (hs : 0 ≤ s ∧ s < 2) (hj : 0 ≤ j ∧ j < 8) :
    TellsData i s j a b l ((WS.new 8).write i s a) (((WS.new 8).write i s a).write j (1 - s) b) ((((WS.new 8).write i s a).write j (1 - s) b).read i s)
      (((((WS.new 8).write i s a).write j (1 - s) b).read i s).lie 1 l) ((((((WS.new 8).write i s a).write j (1 - s) b).read i s).lie 1 l).read i s)
      (((((((WS.new 8).write i s a).write j (1 - s) b).read i s).lie 1 l).read i s).read i s) := by
  have hs' : s = 0 ∨ s = 1 := by omega
  have hs2 : 1 - s = 0 ∨ 1 - s = 1 := by omega
  have c0 := calm_new 8 (by omega) (by omega)
  obtain ⟨c1, b1, l1, r1, s1, n1⟩ := c0.write hi.1 hi.2 hs' a
  generalize ht1 : (WS.new 8).write i s a = t1 at *
  obtain ⟨c2, b2, l2, r2, s2, n2⟩ := c1.write hj.1 hj.2 hs2 b
  generalize ht2 : t1.write j (1 - s) b = t2 at *
  obtain ⟨c3, b3, l3, r3, s3, n3⟩ := c2.read hi.1 hi.2 hs'
  generalize ht3 : t2.read i s = t3 at *
  have c4 := c3.lie 1 l
  have l4 : (t3.lie 1 l).lies = fun m => if m = 1 then some l else t3.lies m := rfl
  have r4 : (t3.lie 1 l).reads = t3.reads := rfl
  have s4 : (t3.lie 1 l).slots = t3.slots := rfl
  have n4 : (t3.lie 1 l).trace = t3.trace := rfl
  generalize ht4 : t3.lie 1 l = t4 at *
  obtain ⟨c5, b5, l5, r5, s5, n5⟩ := c4.read hi.1 hi.2 hs'
  generalize ht5 : t4.read i s = t5 at *
  obtain ⟨c6, b6, l6, r6, s6, n6⟩ := c5.read hi.1 hi.2 hs'
  generalize ht6 : t5.read i s = t6 at *
  obtain ⟨c7, b7, l7, r7, s7, n7⟩ := c6.read hi.1 hi.2 hs2
  have e0 : (WS.new 8).reads = 0 := rfl
  have e1 : (WS.new 8).lies = fun _ => none := rfl
  have e2 : (WS.new 8).slots = fun _ _ => zeros272 := rfl
  have e3 : (WS.new 8).trace = [] := rfl
  have hne : ¬ s = 1 - s := by omega
  have hne2 : ¬ 1 - s = s := by omega
  have q2 : t2.slots i s = WS.pad a := by rw [s2, s1]; simp [hne]
  have q3 : t2.slots i (1 - s) = if i = j then WS.pad b else zeros272 := by rw [s2, s1, e2]; simp [hne2]
  rw [e1] at l1
  rw [e0] at r1
  rw [e3] at n1
  refine ⟨b1, b2, ?_, ?_, ?_, ?_, ?_, ?_, ?_, ?_, ?_⟩
  · rw [b3, l2, l1, q2]; rfl
  · rw [b5, l4, r4, r3, r2, r1]; simp
  · rw [b6, l5, l4, r5, r4, r3, r2, r1, l3, l2, l1, s5, s4, s3, q2]; simp
  · rw [b7, l6, l5, l4, r6, r5, r4, r3, r2, r1, l3, l2, l1, s6, s5, s4, s3, q3]; simp
  · rw [n1]; simp
  · rw [n2, n1]; simp
  · rw [n4, n3, n2, n1]; simp
  · rw [n5, n4, n3, n2, n1]; simp
  · rw [n6, n5, n4, n3, n2, n1]; simp

theorem okb_pad {l : List Int} (h : Okb l) : Okb (WS.pad l) := ⟨by rw [pad_len]; decide, pad_byt h.2⟩

set_option maxRecDepth 100000 in
set_option maxHeartbeats 400000 in
theorem tells_walk (w : World) (av bv lv : Value) (a b l : List Int) (p q r : Int) (ha : Arg w av a) (hb : Arg w bv b) (hl : Arg w lv l)
    (hp : 0 ≤ p ∧ p ≤ 255) (hq : 0 ≤ q ∧ q ≤ 255) (hr : 0 ≤ r ∧ r ≤ 255) :
    Calls Try.prog 3 #[av, bv, lv, .int .u8 p, .int .u8 q, .int .u8 r] w fun e w' => e = .returned (.bool true) ∧ Evo (fun _ => False) w w' := by
  have hal := ha.len
  have hbl := hb.len
  have hll := hl.len
  obtain ⟨A, ca, rfl, hca⟩ : ∃ A c, av = .slice A a.length c ∧ a.length ≤ c := by obtain ⟨A, c, e, h, _⟩ := ha.src; exact ⟨A, c, e, h⟩
  obtain ⟨B, cb, rfl, hcb⟩ : ∃ A c, bv = .slice A b.length c ∧ b.length ≤ c := by obtain ⟨A, c, e, h, _⟩ := hb.src; exact ⟨A, c, e, h⟩
  obtain ⟨L, cl, rfl, hcl⟩ : ∃ A c, lv = .slice A l.length c ∧ l.length ≤ c := by obtain ⟨A, c, e, h, _⟩ := hl.src; exact ⟨A, c, e, h⟩
  by_cases hbig : (800 : Int) < (a.length : Int) + (b.length : Int) + (l.length : Int)
  · go_enter Try.func3, Try.ntmps3
    go_wp2_with fail
    refine (known_walk w).mono ?_
    rintro e w' ⟨rfl, he⟩
    go_wp2_with fail
    go_ret
    exact ⟨rfl, he⟩
  · have hao := ha.ok (by omega)
    have hbo := hb.ok (by omega)
    have hlo := hl.ok (by omega)
    have hi : 0 ≤ p % 8 ∧ p % 8 < 8 := by omega
    have hs : 0 ≤ q % 2 ∧ q % 2 < 2 := by omega
    have hj : 0 ≤ r % 8 ∧ r % 8 < 8 := by omega
    go_enter Try.func3, Try.ntmps3
    go_wp2_with fail
    generalize p % 8 = i at hi ⊢
    generalize q % 2 = s at hs ⊢
    generalize r % 8 = j at hj ⊢
    clear hp hq hr
    have D := tells_data i s j a b l hi hs hj
    generalize ht1 : (WS.new 8).write i s a = t1 at *
    generalize ht2 : t1.write j (1 - s) b = t2 at *
    generalize ht3 : t2.read i s = t3 at *
    generalize ht4 : t3.lie 1 l = t4 at *
    generalize ht5 : t4.read i s = t5 at *
    generalize ht6 : t5.read i s = t6 at *
    refine (R_new 8 w).mono ?_
    rintro e w1 ⟨g, F1, rfl, hR1, hev1, hF1⟩
    have s1 : St w w1 g (WS.new 8) F1 := ⟨hR1, hev1, hF1⟩
    clear hR1 hev1 hF1
    go_wp2_with fail
    refine (R_write s1.rep i s _ a (ha.srcAt s1.evo) hao (ha.hF s1) (by simp [WS.new])).mono ?_
    rintro e w2 ⟨F2, rfl, hg2⟩
    rw [ht1] at hg2
    have s2 := s1.goes hg2
    rw [D.w1]
    clear hg2 s1
    go_wp2_with fail
    refine (R_write s2.rep j (1 - s) _ b (hb.srcAt s2.evo) hbo (hb.hF s2) D.n1).mono ?_
    rintro e w3 ⟨F3, rfl, hg3⟩
    rw [ht2] at hg3
    have s3 := s2.goes hg3
    rw [D.w2]
    clear hg3 s2
    go_wp2_with fail
    refine (R_read s3.rep i s D.n2).mono ?_
    rintro e w4 ⟨x, F4, rfl, hx, hg4⟩
    rw [ht3] at hg4
    rw [D.r3] at hx
    have hx := hx.mine s3.evo
    have s4 := s3.goes hg4
    obtain ⟨X, cx, rfl, hcx⟩ := hx.form (pad_len a)
    clear hg4 s3
    go_wp2_with fail
    refine (R_lie s4.rep 1 _ l (hl.srcAt s4.evo) hlo).mono ?_
    rintro e w5 ⟨F5, rfl, hg5⟩
    rw [ht4] at hg5
    have hx := hx.goes hg5
    have s5 := s4.goes hg5
    clear hg5 s4
    go_wp2_with fail
    refine (R_read s5.rep i s D.n4).mono ?_
    rintro e w6 ⟨y, F6, rfl, hy, hg6⟩
    rw [ht5] at hg6
    rw [D.r5] at hy
    have hy := hy.mine s5.evo
    have hx := hx.goes hg6
    have s6 := s5.goes hg6
    obtain ⟨Y, cy, rfl, hcy⟩ := hy.form rfl
    clear hg6 s5
    go_wp2_with fail
    refine (R_read s6.rep i s D.n5).mono ?_
    rintro e w7 ⟨z, F7, rfl, hz, hg7⟩
    rw [ht6] at hg7
    rw [D.r6] at hz
    have hz := hz.mine s6.evo
    have hx := hx.goes hg7
    have hy := hy.goes hg7
    have s7 := s6.goes hg7
    obtain ⟨Z, cz, rfl, hcz⟩ := hz.form (pad_len a)
    clear hg7 s6
    go_wp2_with fail
    refine (same_walk _ _ l l w7 hy.src (hl.srcAt s7.evo) hlo.2 hlo.2).mono ?_
    rintro e w' ⟨rfl, rfl⟩
    rw [decide_eq_true rfl]
    go_wp2_with fail
    refine (same_walk _ _ (WS.pad a) (WS.pad a) w7 hx.src hz.src (pad_byt hao.2) (pad_byt hao.2)).mono ?_
    rintro e w' ⟨rfl, rfl⟩
    rw [decide_eq_true rfl]
    clear hy hz hcz hcy hcl hll hl
    go_wp2_with fail
    have hxs := hx.src
    rw [pad_len] at hxs
    have Hxc : Hid (∀ k, k < 272 → ∃ ad, X = some ad ∧ w7.cell? (ad.add k) = some (.int .u8 ((WS.pad a).getD k 0))) := fun k hk => hxs.at hk
    have Hac : Hid (∀ k, k < a.length → ∃ ad, A = some ad ∧ w7.cell? (ad.add k) = some (.int .u8 (a.getD k 0))) := fun k hk => (ha.srcAt s7.evo).at hk
    go_loopg [21, 22] 272 (fun g i c wx => ∃ k : Nat, k ≤ 272 ∧ g = 272 - k ∧ i = .int .i64 k ∧ w7 = wx)
    case atStart => exact ⟨0, by omega, rfl, rfl, rfl⟩
    case round =>
      obtain ⟨k, hk, rfl, rfl, rfl⟩ := hrel
      by_cases hk2 : k < 272
      · obtain ⟨ad, rfl, hc1⟩ := Hxc.out k hk2
        rw [pad_get a k hk2] at hc1
        by_cases hka : k < a.length
        · obtain ⟨ad2, rfl, hc2⟩ := Hac.out k hka
          rw [if_pos hka] at hc1
          have hkz : (k : Int) < 272 := by omega
          have hkaz : (k : Int) < (a.length : Int) := by omega
          go_wp2
          go_roundg (272 - (k + 1))
          case measure => omega
          case rel => exact ⟨k + 1, by omega, rfl, by first | rfl | simp, rfl⟩
        · rw [if_neg hka] at hc1
          have hkz : (k : Int) < 272 := by omega
          have hkaz : ¬ (k : Int) < (a.length : Int) := by omega
          go_wp2
          go_roundg (272 - (k + 1))
          case measure => omega
          case rel => exact ⟨k + 1, by omega, rfl, by first | rfl | simp, rfl⟩
      · obtain rfl : k = 272 := by omega
        go_wp2_with fail
        refine (R_read s7.rep i (1 - s) D.n6).mono ?_
        rintro e w8 ⟨x, F8, rfl, hy, hg8⟩
        rw [D.r7] at hy
        have hy := hy.mine s7.evo
        have s8 := s7.goes hg8
        have he8 := s8.evo
        have hbs := hb.srcAt s8.evo
        have hbb := hbo.2
        clear hx hxs Hxc Hac hg8 s7 hb ha
        by_cases hij : i = j
        · subst hij
          rw [if_pos rfl] at hy
          obtain ⟨E, ce, rfl, hce⟩ := hy.form (pad_len b)
          rcases Int.lt_trichotomy (b.length : Int) 272 with hm1 | hm1 | hm1
          · have hm2 : (b.length : Int) ≤ (ce : Int) := by omega
            have hm3 : (b.length : Int) ≤ (cb : Int) := by omega
            have hse := (hy.src)
            rw [pad_len] at hse
            have hse := hse.take (k := b.length) (by omega) rfl
            have hsb := hbs.take (k := b.length) (by omega) rfl
            rw [bys_take, pad_take b b.length (by omega) (by omega)] at hse
            rw [bys_take] at hsb
            have hm : (b.take b.length).length = b.length := by rw [List.length_take]; omega
            have hms : Hid (Calls Try.prog 15 #[.slice E b.length ce, .slice B b.length cb] w8.drew fun e w' => e = .returned (.bool true) ∧ w8.drew = w') := by
              have h1 : Src w8 1 (.slice E b.length ce) (b.take b.length).length (bys (b.take b.length)) := by rw [hm]; exact hse
              have h2 : Src w8 1 (.slice B b.length cb) (b.take b.length).length (bys (b.take b.length)) := by rw [hm]; exact hsb
              have h3 : Byt (b.take b.length) := fun x hx => hbb x (List.mem_of_mem_take hx)
              refine (same_walk _ _ (b.take b.length) (b.take b.length) w8.drew h1.drew h2.drew h3 h3).mono ?_
              rintro e w' ⟨rfl, rfl⟩
              rw [decide_eq_true rfl]
              exact ⟨rfl, rfl⟩
            clear hy hbs hse hsb
            go_wp2_with fail
            refine wp_region_seq (fun w' => Evo (fun _ => False) w8 w') [0, 1, 2, 3, 4, 5, 6, 7, 8, 9, 10, 12, 13, 15, 16] [0, 1, 2, 3, 4, 5, 6, 7, 8, 9, 10, 11, 12, 13, 14, 15, 16] (by kernel_rfl) (by kernel_rfl) (by rfl) (by kernel_rfl) (fun _ _ _ _ _ h => h) ((Evo.refl _ w8).drew) ?_
            repeat
              apply seq_read (by rfl)
              · (simp only [List.getElem?_toArray, List.getElem?_cons_succ, List.getElem?_cons_zero]; rfl)
              · rfl
              · (intro w' hSw; (first | subst hSw | (try dsimp only at hSw)); go_simp; (try go_bits); (try with_reducible rfl))
              simp only [Act.put, List.setIfInBounds_toArray, List.set_cons_zero, List.set_cons_succ]
            apply seq_act (by rfl)
            · (simp only [List.getElem?_toArray, List.getElem?_cons_succ, List.getElem?_cons_zero]; rfl)
            · rfl
            refine wp_k (fun K hK => ?_)
            go_simp
            refine (hms.out).mono ?_
            rintro e w' ⟨rfl, rfl⟩
            refine hK _ _ ⟨(Evo.refl _ w8).drew, ?_⟩
            clear hK K
            try simp only [Act.put, List.setIfInBounds_toArray, List.set_cons_zero, List.set_cons_succ]
            repeat
              apply seq_read (by rfl)
              · (simp only [List.getElem?_toArray, List.getElem?_cons_succ, List.getElem?_cons_zero]; rfl)
              · rfl
              · (intro w' hSw; (first | subst hSw | (try dsimp only at hSw)); go_simp; (try go_bits); (try with_reducible rfl))
              simp only [Act.put, List.setIfInBounds_toArray, List.set_cons_zero, List.set_cons_succ]
            apply seq_act (by rfl)
            · (simp only [List.getElem?_toArray, List.getElem?_cons_succ, List.getElem?_cons_zero]; rfl)
            · rfl
            refine wp_k (fun K hK => ?_)
            go_simp
            refine (known_walk _).mono ?_
            rintro e w' ⟨rfl, he⟩
            refine hK _ _ ⟨(Evo.refl _ w8).drew.two he, ?_⟩
            clear hK K
            try simp only [Act.put, List.setIfInBounds_toArray, List.set_cons_zero, List.set_cons_succ]
            repeat
              apply seq_read (by rfl)
              · (simp only [List.getElem?_toArray, List.getElem?_cons_succ, List.getElem?_cons_zero]; rfl)
              · rfl
              · (intro w' hSw; (first | subst hSw | (try dsimp only at hSw)); go_simp; (try go_bits); (try with_reducible rfl))
              simp only [Act.put, List.setIfInBounds_toArray, List.set_cons_zero, List.set_cons_succ]
            refine seq_nil ?_
            go_wp2
            go_ret
            exact ⟨rfl, he8.two ((Evo.refl _ w8).drew.two he)⟩
          · have hm2 : (272 : Int) ≤ (ce : Int) := by omega
            have hm3 : (272 : Int) ≤ (cb : Int) := by omega
            have hse := (hy.src)
            rw [pad_len] at hse
            have hse := hse.take (k := 272) (by omega) rfl
            have hsb := hbs.take (k := 272) (by omega) rfl
            rw [bys_take, pad_take b 272 (by omega) (by omega)] at hse
            rw [bys_take] at hsb
            have hm : (b.take 272).length = 272 := by rw [List.length_take]; omega
            have hms : Hid (Calls Try.prog 15 #[.slice E 272 ce, .slice B 272 cb] w8.drew fun e w' => e = .returned (.bool true) ∧ w8.drew = w') := by
              have h1 : Src w8 1 (.slice E 272 ce) (b.take 272).length (bys (b.take 272)) := by rw [hm]; exact hse
              have h2 : Src w8 1 (.slice B 272 cb) (b.take 272).length (bys (b.take 272)) := by rw [hm]; exact hsb
              have h3 : Byt (b.take 272) := fun x hx => hbb x (List.mem_of_mem_take hx)
              refine (same_walk _ _ (b.take 272) (b.take 272) w8.drew h1.drew h2.drew h3 h3).mono ?_
              rintro e w' ⟨rfl, rfl⟩
              rw [decide_eq_true rfl]
              exact ⟨rfl, rfl⟩
            clear hy hbs hse hsb
            go_wp2_with fail
            refine wp_region_seq (fun w' => Evo (fun _ => False) w8 w') [0, 1, 2, 3, 4, 5, 6, 7, 8, 9, 10, 12, 13, 15, 16] [0, 1, 2, 3, 4, 5, 6, 7, 8, 9, 10, 11, 12, 13, 14, 15, 16] (by kernel_rfl) (by kernel_rfl) (by rfl) (by kernel_rfl) (fun _ _ _ _ _ h => h) ((Evo.refl _ w8).drew) ?_
            repeat
              apply seq_read (by rfl)
              · (simp only [List.getElem?_toArray, List.getElem?_cons_succ, List.getElem?_cons_zero]; rfl)
              · rfl
              · (intro w' hSw; (first | subst hSw | (try dsimp only at hSw)); go_simp; (try go_bits); (try with_reducible rfl))
              simp only [Act.put, List.setIfInBounds_toArray, List.set_cons_zero, List.set_cons_succ]
            apply seq_act (by rfl)
            · (simp only [List.getElem?_toArray, List.getElem?_cons_succ, List.getElem?_cons_zero]; rfl)
            · rfl
            refine wp_k (fun K hK => ?_)
            go_simp
            refine (hms.out).mono ?_
            rintro e w' ⟨rfl, rfl⟩
            refine hK _ _ ⟨(Evo.refl _ w8).drew, ?_⟩
            clear hK K
            try simp only [Act.put, List.setIfInBounds_toArray, List.set_cons_zero, List.set_cons_succ]
            repeat
              apply seq_read (by rfl)
              · (simp only [List.getElem?_toArray, List.getElem?_cons_succ, List.getElem?_cons_zero]; rfl)
              · rfl
              · (intro w' hSw; (first | subst hSw | (try dsimp only at hSw)); go_simp; (try go_bits); (try with_reducible rfl))
              simp only [Act.put, List.setIfInBounds_toArray, List.set_cons_zero, List.set_cons_succ]
            apply seq_act (by rfl)
            · (simp only [List.getElem?_toArray, List.getElem?_cons_succ, List.getElem?_cons_zero]; rfl)
            · rfl
            refine wp_k (fun K hK => ?_)
            go_simp
            refine (known_walk _).mono ?_
            rintro e w' ⟨rfl, he⟩
            refine hK _ _ ⟨(Evo.refl _ w8).drew.two he, ?_⟩
            clear hK K
            try simp only [Act.put, List.setIfInBounds_toArray, List.set_cons_zero, List.set_cons_succ]
            repeat
              apply seq_read (by rfl)
              · (simp only [List.getElem?_toArray, List.getElem?_cons_succ, List.getElem?_cons_zero]; rfl)
              · rfl
              · (intro w' hSw; (first | subst hSw | (try dsimp only at hSw)); go_simp; (try go_bits); (try with_reducible rfl))
              simp only [Act.put, List.setIfInBounds_toArray, List.set_cons_zero, List.set_cons_succ]
            refine seq_nil ?_
            go_wp2
            go_ret
            exact ⟨rfl, he8.two ((Evo.refl _ w8).drew.two he)⟩
          · have hm2 : (272 : Int) ≤ (ce : Int) := by omega
            have hm3 : (272 : Int) ≤ (cb : Int) := by omega
            have hse := (hy.src)
            rw [pad_len] at hse
            have hse := hse.take (k := 272) (by omega) rfl
            have hsb := hbs.take (k := 272) (by omega) rfl
            rw [bys_take, pad_take b 272 (by omega) (by omega)] at hse
            rw [bys_take] at hsb
            have hm : (b.take 272).length = 272 := by rw [List.length_take]; omega
            have hms : Hid (Calls Try.prog 15 #[.slice E 272 ce, .slice B 272 cb] w8.drew fun e w' => e = .returned (.bool true) ∧ w8.drew = w') := by
              have h1 : Src w8 1 (.slice E 272 ce) (b.take 272).length (bys (b.take 272)) := by rw [hm]; exact hse
              have h2 : Src w8 1 (.slice B 272 cb) (b.take 272).length (bys (b.take 272)) := by rw [hm]; exact hsb
              have h3 : Byt (b.take 272) := fun x hx => hbb x (List.mem_of_mem_take hx)
              refine (same_walk _ _ (b.take 272) (b.take 272) w8.drew h1.drew h2.drew h3 h3).mono ?_
              rintro e w' ⟨rfl, rfl⟩
              rw [decide_eq_true rfl]
              exact ⟨rfl, rfl⟩
            clear hy hbs hse hsb
            go_wp2_with fail
            refine wp_region_seq (fun w' => Evo (fun _ => False) w8 w') [0, 1, 2, 3, 4, 5, 6, 7, 8, 9, 10, 12, 13, 15, 16] [0, 1, 2, 3, 4, 5, 6, 7, 8, 9, 10, 11, 12, 13, 14, 15, 16] (by kernel_rfl) (by kernel_rfl) (by rfl) (by kernel_rfl) (fun _ _ _ _ _ h => h) ((Evo.refl _ w8).drew) ?_
            repeat
              apply seq_read (by rfl)
              · (simp only [List.getElem?_toArray, List.getElem?_cons_succ, List.getElem?_cons_zero]; rfl)
              · rfl
              · (intro w' hSw; (first | subst hSw | (try dsimp only at hSw)); go_simp; (try go_bits); (try with_reducible rfl))
              simp only [Act.put, List.setIfInBounds_toArray, List.set_cons_zero, List.set_cons_succ]
            apply seq_act (by rfl)
            · (simp only [List.getElem?_toArray, List.getElem?_cons_succ, List.getElem?_cons_zero]; rfl)
            · rfl
            refine wp_k (fun K hK => ?_)
            go_simp
            refine (hms.out).mono ?_
            rintro e w' ⟨rfl, rfl⟩
            refine hK _ _ ⟨(Evo.refl _ w8).drew, ?_⟩
            clear hK K
            try simp only [Act.put, List.setIfInBounds_toArray, List.set_cons_zero, List.set_cons_succ]
            repeat
              apply seq_read (by rfl)
              · (simp only [List.getElem?_toArray, List.getElem?_cons_succ, List.getElem?_cons_zero]; rfl)
              · rfl
              · (intro w' hSw; (first | subst hSw | (try dsimp only at hSw)); go_simp; (try go_bits); (try with_reducible rfl))
              simp only [Act.put, List.setIfInBounds_toArray, List.set_cons_zero, List.set_cons_succ]
            apply seq_act (by rfl)
            · (simp only [List.getElem?_toArray, List.getElem?_cons_succ, List.getElem?_cons_zero]; rfl)
            · rfl
            refine wp_k (fun K hK => ?_)
            go_simp
            refine (known_walk _).mono ?_
            rintro e w' ⟨rfl, he⟩
            refine hK _ _ ⟨(Evo.refl _ w8).drew.two he, ?_⟩
            clear hK K
            try simp only [Act.put, List.setIfInBounds_toArray, List.set_cons_zero, List.set_cons_succ]
            repeat
              apply seq_read (by rfl)
              · (simp only [List.getElem?_toArray, List.getElem?_cons_succ, List.getElem?_cons_zero]; rfl)
              · rfl
              · (intro w' hSw; (first | subst hSw | (try dsimp only at hSw)); go_simp; (try go_bits); (try with_reducible rfl))
              simp only [Act.put, List.setIfInBounds_toArray, List.set_cons_zero, List.set_cons_succ]
            refine seq_nil ?_
            go_wp2
            go_ret
            exact ⟨rfl, he8.two ((Evo.refl _ w8).drew.two he)⟩
        · rw [if_neg hij] at hy
          obtain ⟨E, ce, rfl, hce⟩ := hy.form zeros_len
          have hes := hy.src
          rw [zeros_len] at hes
          have Hec : Hid (∀ k, k < 272 → ∃ ad, E = some ad ∧ w8.cell? (ad.add k) = some (.int .u8 0)) := fun k hk => by have := hes.at hk; rwa [zeros_get] at this
          have hijb : (i == j) = false := by simpa using hij
          clear hy hes
          go_wp2_with fail
          go_loopg [25] 272 (fun g i wx => ∃ k : Nat, k ≤ 272 ∧ g = 272 - k ∧ i = .int .i64 k ∧ w8 = wx)
          case atStart => exact ⟨0, by omega, rfl, rfl, rfl⟩
          case round =>
            obtain ⟨k, hk, rfl, rfl, rfl⟩ := hrel
            by_cases hk2 : k < 272
            · obtain ⟨ad, rfl, hc1⟩ := Hec.out k hk2
              have hkz : (k : Int) < 272 := by omega
              go_wp2
              go_roundg (272 - (k + 1))
              case measure => omega
              case rel => exact ⟨k + 1, by omega, rfl, by first | rfl | simp, rfl⟩
            · obtain rfl : k = 272 := by omega
              go_wp2_with fail
              refine (known_walk w8).mono ?_
              rintro e w' ⟨rfl, he⟩
              go_wp2_with fail
              go_ret
              exact ⟨rfl, he8.two he⟩
end Go.Proofs.Ytnndkameadlkdaa
