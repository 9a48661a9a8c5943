/- The contracts of World.Seal, Bump and New, said of a world as data. -/
import Derived.Test.YtnndkameadlkdaaOpsD
namespace Go.Proofs.Ytnndkameadlkdaa
open Go.RowKit

theorem bump_facts {t : WS} (h : t.bumps = true) : t.dead = false ∧ t.counter ≠ 18446744073709551615 := by simpa [WS.bumps] using h
theorem u64_succ {c : Int} (h0 : 0 ≤ c) (h1 : c ≤ 18446744073709551615) (h2 : ¬ c = 18446744073709551615) : IntKind.u64.wrap (c + 1) = c + 1 := by
  have : c + 1 ≤ 18446744073709551615 := by omega
  simp only [IntKind.wrap_u64]
  omega
theorem u64_le {c : Int} (h1 : c ≤ 18446744073709551615) (h2 : (c == 18446744073709551615) = false) : c + 1 ≤ 18446744073709551615 := by
  have : ¬ c = 18446744073709551615 := by simpa using h2
  omega
theorem takes_counter (t : WS) (n : Int) : (t.takes n).counter = t.counter := by unfold WS.takes; split <;> rfl

section
variable {w : World} {b : Nat} {t : WS} {F : Nat → Prop}

set_option maxRecDepth 100000 in
set_option maxHeartbeats 400000 in
theorem R_bump (hR : Rep w b t F) (hsm : t.trace.length < 900000) :
    Calls Try.prog 18 #[wp0 b] w fun e w' => ∃ F', e = .returned (.bool t.bumpB) ∧ Goes w F b t.bump w' F' := by
  have hR0 := hR
  obtain ⟨⟨ms, ml, s0, s1, tv, M, L, bs, h⟩, hrd⟩ := hR
  have c9 := blk_cell h.cell 9
  have c4 := blk_cell h.cell 4
  simp only [wcells] at c9 c4
  cases hd : t.dead with
  | true =>
    have e1 : t.bumpB = false := by simp [WS.bumpB, WS.bumps, hd]
    have e2 : t.bump = t := by simp [WS.bump, WS.bumps, hd]
    rw [e1, e2]
    have c9' : w.cell? ⟨b, 9, none⟩ = some (.bool true) := by rw [c9, hd]; rfl
    clear c9 hd e1 e2
    go_enter Try.func18, Try.ntmps18
    go_wp2_with fail
    go_ret
    exact ⟨F, rfl, Goes.refl hR0⟩
  | false =>
    have c9' : w.cell? ⟨b, 9, none⟩ = some (.bool false) := by rw [c9, hd]; rfl
    have c4' : w.cell? ⟨b, 4, none⟩ = some (.int .u64 t.counter) := c4
    by_cases hm : t.counter = 18446744073709551615
    · have e1 : t.bumpB = false := by simp [WS.bumpB, WS.bumps, hm]
      have e2 : t.bump = t := by simp [WS.bump, WS.bumps, hm]
      rw [e1, e2]
      have hb : (t.counter == 18446744073709551615) = true := by rw [hm]; rfl
      clear c9 c4 hd e1 e2 hm
      go_enter Try.func18, Try.ntmps18
      go_wp2_with fail
      go_ret
      exact ⟨F, rfl, Goes.refl hR0⟩
    · have hb : (t.counter == 18446744073709551615) = false := by simpa using hm
      have hbs : t.bumps = true := by simp [WS.bumps, hd, hm]
      have hc0 := h.counter0
      have hc1 := h.counter1
      have hw : IntKind.u64.wrap (t.counter + 1) = t.counter + 1 := u64_succ hc0 hc1 hm
      obtain ⟨k, HK⟩ : ∃ k, Hid (t.takesN 1 = k) := ⟨_, rfl⟩
      have HD := Lib.hid hd
      have HW := Lib.hid hw
      clear c9 c4 hd hm hc0 hc1 hw
      by_cases hk : k = 0
      · have e1 : t.bumpB = false := by simp [WS.bumpB, HK.out, hk]
        have e2 : t.bump = t.takes 1 := by simp [WS.bump, hbs, HK.out, hk]
        rw [e1, e2]
        clear e1 e2
        have hkb : (k == 0) = true := by simpa using hk
        clear hk
        go_enter Try.func18, Try.ntmps18
        go_wp2_with fail
        refine (R_takes h 1 (by omega) (by omega) HD.out).mono ?_
        rintro e w1 ⟨rfl, h1, hev1, _, _, _⟩
        rw [HK.out]
        go_wp2_with fail
        go_ret
        exact ⟨F, rfl, ⟨⟨_, _, _, _, _, _, _, _, h1⟩, by rw [takes_reads, takes_trace]; exact hrd⟩, hev1, fun _ hk => .inl hk, fun _ hk => hk⟩
      · have e1 : t.bumpB = true := by simp [WS.bumpB, hbs, HK.out, hk]
        have e2 : t.bump = { (t.takes 1) with counter := t.counter + 1 }.note 5 0 0 [] := by simp [WS.bump, hbs, HK.out, hk]
        rw [e1, e2]
        clear e1 e2
        have hkb : (k == 0) = false := by simpa using hk
        clear hk
        go_enter Try.func18, Try.ntmps18
        go_wp2_with fail
        refine (R_takes h 1 (by omega) (by omega) HD.out).mono ?_
        rintro e w1 ⟨rfl, h1, hev1, _, _, _⟩
        rw [HK.out]
        have d4 : w1.cell? ⟨b, 4, none⟩ = some (.int .u64 t.counter) := by
          have := blk_cell h1.cell 4
          simpa [wcells, takes_counter] using this
        have f4 := blk_frozen h1.cell 4
        have hc0 := h.counter0
        have hc1 := h.counter1
        have h2 := h1.setCell (t' := { (t.takes 1) with counter := t.counter + 1 }) 4 (.int .u64 (t.counter + 1)) rfl rfl rfl rfl rfl h1.blocks0 h1.blocks1 (by simp; omega) (by simp; exact u64_le hc1 hb) h1.reads0 h1.reads1 h1.power0 h1.power1
        have hev2 : Evo F w (w1.setCell ⟨b, 4, none⟩ (.int .u64 (t.counter + 1))) := hev1.trans ((Evo.refl F w1).setCell (p := ⟨b, 4, none⟩) (.inl h1.fb) _) (fun _ hf => .inl hf)
        have hsz2 : (w1.setCell ⟨b, 4, none⟩ (.int .u64 (t.counter + 1))).heap.size = w1.heap.size := by simp [World.setCell]
        have hw2 := HW.out
        clear hc0 hc1
        go_wp2_with fail
        refine (R_note h2 5 0 0 (.slice none 0 0) [] (Src.of_own (World.ownsRow_nil _ 0 5 1)) ⟨by simp, by intro x hx; cases hx⟩ (by rw [show ({ (t.takes 1) with counter := t.counter + 1 } : WS).trace = t.trace from takes_trace t 1]; exact hsm)).mono ?_
        rintro e w3 ⟨rfl, tv', bs', h3, hev3⟩
        go_wp2_with fail
        go_ret
        have hz1 := hev1.size
        refine ⟨Plus F (w1.setCell ⟨b, 4, none⟩ (.int .u64 (t.counter + 1))) w3, rfl, ⟨⟨⟨_, _, _, _, _, _, _, _, h3⟩, ?_⟩, hev2.trans hev3 (fun _ hf => .inl hf), ?_, fun _ hf => .inl hf⟩⟩
        · show (t.takes 1).reads ≤ (((t.takes 1).trace ++ [_]).length : Nat)
          rw [takes_reads, takes_trace]
          simp
          omega
        · rintro x (hx | hx)
          · exact .inl hx
          · rw [hsz2] at hx
            exact .inr (by omega)
end

end Go.Proofs.Ytnndkameadlkdaa
