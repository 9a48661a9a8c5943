/- The contracts of package world's exported functions, said of a world as data. -/
import Derived.Test.YtnndkameadlkdaaOpsA
namespace Go.Proofs.Ytnndkameadlkdaa
open Go.RowKit

/-- The bytes l, in a new row that is nobody's. -/
def Res (w w' : World) (F' : Nat → Prop) (v : Value) (l : List Int) : Prop :=
  ∃ A c, v = .slice A l.length c ∧ w'.ownsRow w.heap.size 5 1 v l.length (bys l) ∧ ∀ g, v.ownBlock = some g → ¬ F' g

theorem slots_src {w : World} {g : Nat} {l : List Int} (h : w.heap[g]? = some (.cells (bys l).toArray 96 (0, 0))) (hl : l.length = 272) : Src w 1 (.slice (some ⟨g, 0, none⟩) 272 272) l.length (bys l) := by
  rw [hl]
  refine ⟨_, _, rfl, Nat.le_refl _, by rw [bys_length, hl], fun j u hu => ⟨_, rfl, ?_⟩⟩
  have hadd : (⟨g, 0, none⟩ : Addr).add j = ⟨g, j, none⟩ := by unfold Addr.add; split <;> simp_all
  rw [hadd, blk_cell h j]
  simpa using hu

theorem there_of {t : WS} {a s : Int} (h : t.there a s = true) : t.dead = false ∧ 0 ≤ a ∧ a < t.blocks ∧ (s = 0 ∨ s = 1) := by simpa [WS.there] using h
theorem there_not {t : WS} {a s : Int} (h : t.there a s = false) : ¬ (t.dead = false ∧ 0 ≤ a ∧ a < t.blocks ∧ (s = 0 ∨ s = 1)) := by simpa [WS.there] using h
theorem sealed_of {t : WS} {i : Int} (h : t.sealed i = true) : t.dead = false ∧ (i = 0 ∨ i = 1) := by simpa [WS.sealed] using h
theorem sealed_not {t : WS} {i : Int} (h : t.sealed i = false) : ¬ (t.dead = false ∧ (i = 0 ∨ i = 1)) := by simpa [WS.sealed] using h

theorem slots_okb {w : World} {F : Nat → Prop} {ms : Nat} {M : Value → Option Value} {S : Int → Int → List Int} (h : SlotsR w F ms M S) (a s : Int) : Okb (S a s) := ⟨by rw [h.len]; omega, h.byt a s⟩

theorem Goes.refl {w : World} {b : Nat} {t : WS} {F : Nat → Prop} (h : Rep w b t F) : Goes w F b t w F := ⟨h, Evo.refl F w, fun _ hk => .inl hk, fun _ hk => hk⟩

theorem ownsRow_evo {w w' : World} {F : Nat → Prop} {base : Nat} {e : TypeId} {size n : Nat} {v : Value} {xs : List Value} (h : w.ownsRow base e size v n xs) (he : Evo F w w') (hF : ∀ g, v.ownBlock = some g → ¬ F g) : w'.ownsRow base e size v n xs := by
  refine ⟨h.1, ?_⟩
  rcases h.2 with h2 | ⟨g, cap, cur, rfl, hb, hg, r⟩
  · exact Or.inl h2
  · exact Or.inr ⟨g, cap, cur, rfl, hb, (he.block g (heap_lt hg) (hF g rfl)).trans hg, r⟩

theorem evo_plus {w w1 w2 : World} {F : Nat → Prop} (h : Evo F w w1) (k : Evo (Plus F w w1) w1 w2) : Evo F w w2 := h.trans k (fun x hx => by
  rcases hx with hx | hx
  · exact .inl hx
  · exact .inr hx.1)

section
variable {w : World} {b : Nat} {t : WS} {F : Nat → Prop}

set_option maxRecDepth 100000 in
set_option maxHeartbeats 400000 in
theorem R_read (hR : Rep w b t F) (a s : Int) (hsm : t.trace.length < 900000) :
    Calls Try.prog 13 #[wp0 b, .int .i64 a, .int .i64 s] w fun e w' => ∃ v F', e = .returned v ∧ Res w w' F' v (t.readB a s) ∧ Goes w F b (t.read a s) w' F' := by
  obtain ⟨⟨ms, ml, s0, s1, tv, M, L, bs, h⟩, hrd⟩ := hR
  cases hth : t.there a s with
  | false =>
    have H := there_not hth
    have hR : Rep w b t F := ⟨⟨ms, ml, s0, s1, tv, M, L, bs, h⟩, hrd⟩
    have e1 : t.readB a s = [] := by simp [WS.readB, hth]
    have e2 : t.read a s = t := by simp [WS.read, hth]
    rw [e1, e2]
    clear e1 e2
    go_enter Try.func13, Try.ntmps13
    go_wp2_with fail
    refine (there_no b a s t.blocks t.dead w (blk_cell h.cell 9) (blk_cell h.cell 0) H).mono ?_
    rintro e w' ⟨rfl, rfl⟩
    go_wp2_with fail
    go_ret
    exact ⟨_, F, rfl, ⟨none, 0, rfl, World.ownsRow_nil _ _ _ _, by simp [Value.ownBlock]⟩, Goes.refl hR⟩
  | true =>
    obtain ⟨H1, H2, H3, H4⟩ := there_of hth
    have e1 : t.readB a s = t.says (t.slots a s) := by simp [WS.readB, hth, WS.told]
    have e2 : t.read a s = t.count.note 1 a s (t.says (t.slots a s)) := by simp [WS.read, hth, WS.told]
    rw [e1, e2]
    clear e1 e2
    have hd : w.cell? ⟨b, 9, none⟩ = some (.bool false) := by have := blk_cell h.cell 9; simpa [wcells, H1] using this
    go_enter Try.func13, Try.ntmps13
    go_wp2_with fail
    refine (there_yes b a s t.blocks w hd (blk_cell h.cell 0) H2 H3 H4).mono ?_
    rintro e w' ⟨rfl, rfl⟩
    clear hd H1 H2 H3 H4
    go_wp2_with fail
    refine (R_slot h a s).mono ?_
    rintro e w1 ⟨g, M', rfl, h1, hev1, hM1⟩
    have hgc : w1.heap[g]? = some (.cells (bys (t.slots a s)).toArray 96 (0, 0)) := by
      obtain ⟨g', e1, _, e3⟩ := h1.slots.some_ a s _ hM1
      cases e1
      exact e3
    have hgb : g ≠ b := by
      rintro rfl
      rw [h1.cell] at hgc
      injection hgc with hgc
      injection hgc with _ h5
      cases h5
    go_wp2_with fail
    refine (R_told h1 (by omega) _ (t.slots a s) (slots_src hgc (h1.slots.len a s)) (slots_okb h1.slots a s) (by rintro ad n c e; cases e; exact hgb)).mono ?_
    rintro e w2 ⟨A, c, rfl, hown, h2, hev2, hok⟩
    clear hgc hgb
    go_wp2_with fail
    refine (R_note h2 1 a s _ (t.says (t.slots a s)) (Src.of_own hown) hok hsm).mono ?_
    rintro e w3 ⟨rfl, tv', bs', h3, hev3⟩
    go_wp2_with fail
    go_ret
    have hsz := hev1.size
    have hsz2 := hev2.size
    have hnew : ∀ g, (Value.slice A (t.says (t.slots a s)).length c).ownBlock = some g → w1.heap.size ≤ g ∧ g < w2.heap.size := fun g hg => hown.lt g hg
    refine ⟨_, Plus (Plus F w w1) w2 w3, rfl, ⟨A, c, rfl, ?_, ?_⟩, ⟨⟨⟨_, _, _, _, _, _, _, _, h3⟩, ?_⟩, ?_, ?_, fun k hk => .inl (.inl hk)⟩⟩
    · refine ownsRow_base (ownsRow_evo hown hev3 (fun g hg => ?_)) (fun g hg => by have := hnew g hg; omega)
      have := hnew g hg
      rintro (hf | hf)
      · have := h.lt g hf; omega
      · omega
    · intro g hg hf
      have := hnew g hg
      rcases hf with (hf | hf) | hf
      · have := h.lt g hf; omega
      · omega
      · omega
    · simp [WS.note, WS.count]; omega
    · exact evo_plus hev1 (hev2.trans hev3 (fun x hx => .inl hx))
    · rintro k ((hk | hk) | hk)
      · exact .inl hk
      · exact .inr hk.1
      · exact .inr (by omega)

set_option maxRecDepth 100000 in
set_option maxHeartbeats 400000 in
theorem R_look (hR : Rep w b t F) (i : Int) (hsm : t.trace.length < 900000) :
    Calls Try.prog 22 #[wp0 b, .int .i64 i] w fun e w' => ∃ v F', e = .returned v ∧ Res w w' F' v (t.lookB i) ∧ Goes w F b (t.look i) w' F' := by
  obtain ⟨⟨ms, ml, s0, s1, tv, M, L, bs, h⟩, hrd⟩ := hR
  cases hth : t.sealed i with
  | false =>
    have H := sealed_not hth
    have hR : Rep w b t F := ⟨⟨ms, ml, s0, s1, tv, M, L, bs, h⟩, hrd⟩
    have e1 : t.lookB i = [] := by simp [WS.lookB, hth]
    have e2 : t.look i = t := by simp [WS.look, hth]
    rw [e1, e2]
    clear e1 e2
    go_enter Try.func22, Try.ntmps22
    go_wp2_with fail
    refine (sealed_no b i t.dead w (blk_cell h.cell 9) H).mono ?_
    rintro e w' ⟨rfl, rfl⟩
    go_wp2_with fail
    go_ret
    exact ⟨_, F, rfl, ⟨none, 0, rfl, World.ownsRow_nil _ _ _ _, by simp [Value.ownBlock]⟩, Goes.refl hR⟩
  | true =>
    obtain ⟨H1, H4⟩ := sealed_of hth
    have e1 : t.lookB i = t.says (t.seals i) := by simp [WS.lookB, hth]
    have e2 : t.look i = t.count.note 3 i 0 (t.says (t.seals i)) := by simp [WS.look, hth]
    rw [e1, e2]
    clear e1 e2
    have hd : w.cell? ⟨b, 9, none⟩ = some (.bool false) := by have := blk_cell h.cell 9; simpa [wcells, H1] using this
    obtain ⟨sv, hsv, hso, hok0⟩ : ∃ sv, w.cell? ⟨b, 2 + i.toNat, none⟩ = some sv ∧ Own w F 5 sv (t.seals i) ∧ Okb (t.seals i) := by
      rcases H4 with rfl | rfl
      · exact ⟨s0, blk_cell h.cell 2, h.seal0, h.ok0⟩
      · exact ⟨s1, blk_cell h.cell 3, h.seal1, h.ok1⟩
    have hsb : ∀ (ad : Addr) (n c : Nat), sv = .slice (some ad) n c → ad.block ≠ b := by
      rintro ad n c rfl e
      obtain ⟨c', f', h4⟩ := ownsRow_kind hso.1 ad.block rfl
      rw [e, h.cell] at h4
      injection h4 with h4
      injection h4 with _ h5
      cases h5
    rcases H4 with rfl | rfl
    all_goals
      simp only [Int.toNat_zero, Int.toNat_one, Nat.add_zero, Nat.reduceAdd] at hsv
      go_enter Try.func22, Try.ntmps22
      go_wp2_with fail
      refine (sealed_yes b _ w hd (by simp)).mono ?_
      rintro e w' ⟨rfl, rfl⟩
      clear hd H1
      go_wp2_with fail
      refine (R_told h (by omega) sv _ hso.src hok0 hsb).mono ?_
      rintro e w2 ⟨A, c, rfl, hown, h2, hev2, hok⟩
      go_wp2_with fail
      refine (R_note h2 3 _ 0 _ _ (Src.of_own hown) hok hsm).mono ?_
      rintro e w3 ⟨rfl, tv', bs', h3, hev3⟩
      go_wp2_with fail
      go_ret
      refine ⟨_, Plus F w2 w3, rfl, ⟨A, c, rfl, ?_, ?_⟩, ⟨⟨⟨_, _, _, _, _, _, _, _, h3⟩, ?_⟩, ?_, ?_, fun k hk => .inl hk⟩⟩
      · refine ownsRow_evo hown hev3 (fun g hg hf => ?_)
        have := hown.lt g hg
        have := h.lt g hf
        omega
      · intro g hg hf
        have := hown.lt g hg
        rcases hf with hf | hf
        · have := h.lt g hf; omega
        · omega
      · simp [WS.note, WS.count]; omega
      · exact hev2.trans hev3 (fun x hx => .inl hx)
      · rintro k (hk | hk)
        · exact .inl hk
        · exact .inr (by have := hev2.size; omega)
end

end Go.Proofs.Ytnndkameadlkdaa
