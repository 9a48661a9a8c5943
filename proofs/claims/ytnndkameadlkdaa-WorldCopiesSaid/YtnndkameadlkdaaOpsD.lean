/- The contracts of World.Seal, Bump, Lie, Arm, Restart, Set, Counter, Dead, New, said of a world as data. -/
import Derived.Test.YtnndkameadlkdaaOpsC
namespace Go.Proofs.Ytnndkameadlkdaa
open Go.RowKit

section
variable {w : World} {b : Nat} {t : WS} {F : Nat → Prop} {ms ml : Nat} {s0 s1 tv : Value} {M L : Value → Option Value} {bs : List Value}

theorem RepG.mono {F' : Nat → Prop} (h : RepG w b t F ms ml s0 s1 tv M L bs) (hF : ∀ k, F k → F' k) (hl : ∀ k, F' k → k < w.heap.size) : RepG w b t F' ms ml s0 s1 tv M L bs := by
  exact {
    cell := h.cell, fb := hF _ h.fb, fms := hF _ h.fms, fml := hF _ h.fml, ne := h.ne, lt := hl
    slots := h.slots.keep rfl (SameKind.refl _ _) hF
    lies := h.lies.keep rfl (SameKind.refl _ _) hF
    seal0 := h.seal0.same (SameKind.refl _ _) hF
    seal1 := h.seal1.same (SameKind.refl _ _) hF
    trace := h.trace.keep (SameKind.refl _ _) (SameKind.refl _ _) hF
    ok0 := h.ok0, ok1 := h.ok1, blocks0 := h.blocks0, blocks1 := h.blocks1, counter0 := h.counter0, counter1 := h.counter1
    reads0 := h.reads0, reads1 := h.reads1, power0 := h.power0, power1 := h.power1, small := h.small }

/-- Cells of the world's own that are no seal and no map: a store, and the data that follow. -/
theorem RepG.setCell {t' : WS} (h : RepG w b t F ms ml s0 s1 tv M L bs) (i : Nat) (u : Value) (hcs : (wcells t ms ml s0 s1 tv).setIfInBounds i u = wcells t' ms ml s0 s1 tv)
    (e1 : t'.slots = t.slots) (e2 : t'.seals = t.seals) (e3 : t'.lies = t.lies) (e4 : t'.trace = t.trace) (b0 : 0 ≤ t'.blocks) (b1 : t'.blocks ≤ 4096) (c0 : 0 ≤ t'.counter) (c1 : t'.counter ≤ 18446744073709551615)
    (r0 : 0 ≤ t'.reads) (r1 : t'.reads ≤ 950000) (p0 : 0 ≤ t'.power) (p1 : t'.power ≤ 1000000) : RepG (w.setCell ⟨b, i, none⟩ u) b t' F ms ml s0 s1 tv M L bs := by
  have S : ∀ e, e ≠ 73 → SameKind e w (w.setCell ⟨b, i, none⟩ u) := fun e he => (SameKind.refl e w).setCell (p := ⟨b, i, none⟩) h.cell he _
  have hc := blk_set h.cell i u
  rw [hcs] at hc
  refine h.turn hc (fun j es c hj => map_setCell _ _ j es c hj) (S 96 (by decide)) (S 5 (by decide)) (fun _ hk => hk) (fun k hk => by simpa [World.setCell] using h.lt k hk) ?_ e1 e2 e3 b0 b1 c0 c1 r0 r1 p0 p1 (by rw [e4]; exact h.small)
  rw [e4]
  exact h.trace.keep (S 52 (by decide)) (S 5 (by decide)) (fun _ hk => hk)

theorem RepG.setSeal (h : RepG w b t F ms ml s0 s1 tv M L bs) (i : Int) (hi : i = 0 ∨ i = 1) {v : Value} {x : List Int} (hv : Own w F 5 v x) (hx : Okb x) :
    ∃ s0' s1', RepG (w.setCell ⟨b, 2 + i.toNat, none⟩ v) b (t.setSeal i x) F ms ml s0' s1' tv M L bs := by
  have S : ∀ e, e ≠ 73 → SameKind e w (w.setCell ⟨b, 2 + i.toNat, none⟩ v) := fun e he => (SameKind.refl e w).setCell (p := ⟨b, 2 + i.toNat, none⟩) h.cell he _
  have hid : ∀ k, F k → F k := fun _ hk => hk
  have hmap : ∀ (k : Nat) (es : Array MapEntry) (c : Nat), w.heap[k]? = some (Obj.map es c) → (w.setCell ⟨b, 2 + i.toNat, none⟩ v).heap[k]? = w.heap[k]? := fun k es c hk => map_setCell _ _ k es c hk
  obtain ⟨es1, cl1, hes1, _⟩ := h.slots.map
  obtain ⟨es2, cl2, hes2, _⟩ := h.lies.map
  have hv' := hv.same (S 5 (by decide)) hid
  have h0' := h.seal0.same (S 5 (by decide)) hid
  have h1' := h.seal1.same (S 5 (by decide)) hid
  have hl : ∀ k, F k → k < (w.setCell ⟨b, 2 + i.toNat, none⟩ v).heap.size := fun k hk => by simpa [World.setCell] using h.lt k hk
  rcases hi with rfl | rfl
  · refine ⟨v, s1, ?_⟩
    exact {
      cell := blk_set h.cell 2 v
      fb := h.fb, fms := h.fms, fml := h.fml, ne := h.ne, lt := hl
      slots := h.slots.keep (hmap _ _ _ hes1) (S 96 (by decide)) hid
      lies := h.lies.keep (hmap _ _ _ hes2) (S 5 (by decide)) hid
      seal0 := by simpa [WS.setSeal] using hv'
      seal1 := by simpa [WS.setSeal] using h1'
      trace := h.trace.keep (S 52 (by decide)) (S 5 (by decide)) hid
      ok0 := by simpa [WS.setSeal] using hx
      ok1 := by simpa [WS.setSeal] using h.ok1
      blocks0 := h.blocks0, blocks1 := h.blocks1, counter0 := h.counter0, counter1 := h.counter1
      reads0 := h.reads0, reads1 := h.reads1, power0 := h.power0, power1 := h.power1, small := h.small }
  · refine ⟨s0, v, ?_⟩
    exact {
      cell := blk_set h.cell 3 v
      fb := h.fb, fms := h.fms, fml := h.fml, ne := h.ne, lt := hl
      slots := h.slots.keep (hmap _ _ _ hes1) (S 96 (by decide)) hid
      lies := h.lies.keep (hmap _ _ _ hes2) (S 5 (by decide)) hid
      seal0 := by simpa [WS.setSeal] using h0'
      seal1 := by simpa [WS.setSeal] using hv'
      trace := h.trace.keep (S 52 (by decide)) (S 5 (by decide)) hid
      ok0 := by simpa [WS.setSeal] using h.ok0
      ok1 := by simpa [WS.setSeal] using hx
      blocks0 := h.blocks0, blocks1 := h.blocks1, counter0 := h.counter0, counter1 := h.counter1
      reads0 := h.reads0, reads1 := h.reads1, power0 := h.power0, power1 := h.power1, small := h.small }
end

section
variable {w : World} {b : Nat} {t : WS} {F : Nat → Prop}

theorem R_dead (hR : Rep w b t F) : Calls Try.prog 17 #[wp0 b] w fun e w' => e = .returned (.bool t.dead) ∧ w = w' := by
  obtain ⟨⟨ms, ml, s0, s1, tv, M, L, bs, h⟩, hrd⟩ := hR
  exact dead_walk b t.dead w (blk_cell h.cell 9)

theorem R_counter (hR : Rep w b t F) : Calls Try.prog 19 #[wp0 b] w fun e w' => e = .returned (.int .u64 t.count64) ∧ w = w' := by
  obtain ⟨⟨ms, ml, s0, s1, tv, M, L, bs, h⟩, hrd⟩ := hR
  exact counter_walk b t.counter t.dead w (blk_cell h.cell 9) (blk_cell h.cell 4)

theorem R_arm (hR : Rep w b t F) (n : Int) : Calls Try.prog 16 #[wp0 b, .int .i64 n] w fun e w' => e = .returned (.tuple #[]) ∧ Goes w F b (t.arm n) w' F := by
  obtain ⟨⟨ms, ml, s0, s1, tv, M, L, bs, h⟩, hrd⟩ := hR
  cases hd : t.dead with
  | true =>
    have e1 : t.arm n = t := by simp [WS.arm, hd]
    rw [e1]
    refine (arm_dead b n w (by have := blk_cell h.cell 9; simpa [wcells, hd] using this)).mono ?_
    rintro e w' ⟨rfl, rfl⟩
    exact ⟨rfl, Goes.refl ⟨⟨_, _, _, _, _, _, _, _, h⟩, hrd⟩⟩
  | false =>
    refine (arm_live b n _ _ w (by have := blk_cell h.cell 9; simpa [wcells, hd] using this) (blk_cell h.cell 7) (blk_cell h.cell 8) (blk_frozen h.cell 7) (blk_frozen h.cell 8)).mono ?_
    rintro e w' ⟨rfl, rfl⟩
    have e1 : t.arm n = { t with armed := true, power := max 0 (min n 1000000) } := by simp [WS.arm, hd]
    rw [e1]
    have h1 := h.setCell (t' := { t with armed := true }) 7 (.bool true) rfl rfl rfl rfl rfl h.blocks0 h.blocks1 h.counter0 h.counter1 h.reads0 h.reads1 h.power0 h.power1
    have h2 := h1.setCell (t' := { t with armed := true, power := max 0 (min n 1000000) }) 8 (.int .i64 (max 0 (min n 1000000))) rfl rfl rfl rfl rfl h.blocks0 h.blocks1 h.counter0 h.counter1 h.reads0 h.reads1 (by simp; omega) (by simp; omega)
    exact ⟨rfl, ⟨⟨_, _, _, _, _, _, _, _, h2⟩, hrd⟩, ((Evo.refl F w).setCell (p := ⟨b, 7, none⟩) (.inl h.fb) _).setCell (p := ⟨b, 8, none⟩) (.inl h.fb) _, fun _ hk => .inl hk, fun _ hk => hk⟩

theorem R_restart (hR : Rep w b t F) : Calls Try.prog 20 #[wp0 b] w fun e w' => e = .returned (.tuple #[]) ∧ Goes w F b t.restart w' F := by
  obtain ⟨⟨ms, ml, s0, s1, tv, M, L, bs, h⟩, hrd⟩ := hR
  refine (restart_walk b _ _ w (blk_cell h.cell 7) (blk_cell h.cell 9) (blk_frozen h.cell 7) (blk_frozen h.cell 9)).mono ?_
  rintro e w' ⟨rfl, rfl⟩
  have h1 := h.setCell (t' := { t with armed := false }) 7 (.bool false) rfl rfl rfl rfl rfl h.blocks0 h.blocks1 h.counter0 h.counter1 h.reads0 h.reads1 h.power0 h.power1
  have h2 := h1.setCell (t' := t.restart) 9 (.bool false) rfl rfl rfl rfl rfl h.blocks0 h.blocks1 h.counter0 h.counter1 h.reads0 h.reads1 h.power0 h.power1
  exact ⟨rfl, ⟨⟨_, _, _, _, _, _, _, _, h2⟩, hrd⟩, ((Evo.refl F w).setCell (p := ⟨b, 7, none⟩) (.inl h.fb) _).setCell (p := ⟨b, 9, none⟩) (.inl h.fb) _, fun _ hk => .inl hk, fun _ hk => hk⟩

theorem R_set (hR : Rep w b t F) (n : Int) (h0 : 0 ≤ n) (h1 : n ≤ 18446744073709551615) : Calls Try.prog 24 #[wp0 b, .int .u64 n] w fun e w' => e = .returned (.tuple #[]) ∧ Goes w F b (t.set n) w' F := by
  obtain ⟨⟨ms, ml, s0, s1, tv, M, L, bs, h⟩, hrd⟩ := hR
  refine (set_walk b n _ w (blk_cell h.cell 4) (blk_frozen h.cell 4)).mono ?_
  rintro e w' ⟨rfl, rfl⟩
  have h2 := h.setCell (t' := t.set n) 4 (.int .u64 n) rfl rfl rfl rfl rfl h.blocks0 h.blocks1 h0 h1 h.reads0 h.reads1 h.power0 h.power1
  exact ⟨rfl, ⟨⟨_, _, _, _, _, _, _, _, h2⟩, hrd⟩, (Evo.refl F w).setCell (p := ⟨b, 4, none⟩) (.inl h.fb) _, fun _ hk => .inl hk, fun _ hk => hk⟩

theorem R_lie (hR : Rep w b t F) (n : Int) (bv : Value) (l : List Int) (hs : Src w 1 bv l.length (bys l)) (hl : Okb l) :
    Calls Try.prog 14 #[wp0 b, .int .i64 n, bv] w fun e w' => ∃ F', e = .returned (.tuple #[]) ∧ Goes w F b (t.lie n l) w' F' := by
  obtain ⟨⟨ms, ml, s0, s1, tv, M, L, bs, h⟩, hrd⟩ := hR
  refine (lie_walk b ml n bv l L w (blk_cell h.cell 5) h.lies.map hs hl.1).mono ?_
  rintro e w' ⟨rfl, A, c, w1, hown, hg, o, rfl, hM, ho⟩
  have hgw : ∀ {k : Nat} {x : Obj}, w.heap[k]? = some x → w1.heap[k]? = some x := fun {k x} hk => (hg.block k (heap_lt hk) (by simp)).trans hk
  obtain ⟨es, cl, hes, _⟩ := h.lies.map
  have hput : ∀ k, k ≠ ml → (putObj w1 ml o).heap[k]? = w1.heap[k]? := fun k hk => by rw [putObj_heap, if_neg (fun e => hk e.1)]
  have hcells : ∀ {k : Nat} {cs : Array Value} {t' : TypeId} {f : Nat × Nat}, w1.heap[k]? = some (.cells cs t' f) → (putObj w1 ml o).heap[k]? = some (.cells cs t' f) := fun {k cs t' f} hk => (hput k (by
    rintro rfl
    rw [hgw hes] at hk
    injection hk with hk
    cases hk)).trans hk
  have S : ∀ e, SameKind e w (putObj w1 ml o) := fun e k c f hk => hcells (hgw hk)
  have hsz : (putObj w1 ml o).heap.size = w1.heap.size := putObj_size _ _ _
  have hev : Evo F w (putObj w1 ml o) := ((Evo.refl F w).grown hg (by simp)).putObj (.inl h.fml) o
  have hFm : ∀ k, F k → Plus F w w1 k := fun k hk => .inl hk
  obtain ⟨es1, cl1, hes1, _⟩ := h.slots.map
  refine ⟨Plus F w w1, rfl, ⟨⟨⟨ms, ml, s0, s1, tv, M, upd L (.int .i64 n) (.slice A l.length c), bs, ?_⟩, hrd⟩, hev, ?_, hFm⟩⟩
  · exact {
      cell := hcells (hgw h.cell)
      fb := hFm _ h.fb, fms := hFm _ h.fms, fml := hFm _ h.fml, ne := h.ne
      lt := by
        rintro k (hk | hk)
        · exact Nat.lt_of_lt_of_le (h.lt k hk) hev.size
        · rw [hsz]; exact hk.2
      slots := h.slots.keep ((hput ms h.ne).trans ((hgw hes1).trans hes1.symm)) (S 96) hFm
      lies := {
        map := hM
        none_ := fun m hm => by
          have hne : ¬ m = n := by
            rintro rfl
            simp [WS.lie] at hm
          have hm' : t.lies m = none := by simpa [WS.lie, hne] using hm
          rw [upd_other _ _ (by intro e; injection e with _ e; exact hne e)]
          exact h.lies.none_ m hm'
        some_ := fun m x hm => by
          by_cases hne : m = n
          · subst hne
            have hx : l = x := by simpa [WS.lie] using hm
            subst hx
            refine ⟨_, upd_same _ _ _, ⟨ownsRow_base (ownsRow_same hown (fun k c f hk => hcells hk)) (fun _ _ => Nat.zero_le _), fun g hg => .inr (hown.lt g hg)⟩, hl⟩
          · have hm' : t.lies m = some x := by simpa [WS.lie, hne] using hm
            obtain ⟨v, h1, h2, h3⟩ := h.lies.some_ m x hm'
            refine ⟨v, ?_, h2.same (S 5) hFm, h3⟩
            rw [upd_other _ _ (by intro e; injection e with _ e; exact hne e)]
            exact h1 }
      seal0 := h.seal0.same (S 5) hFm
      seal1 := h.seal1.same (S 5) hFm
      trace := h.trace.keep (S 52) (S 5) hFm
      ok0 := h.ok0, ok1 := h.ok1, blocks0 := h.blocks0, blocks1 := h.blocks1, counter0 := h.counter0, counter1 := h.counter1
      reads0 := h.reads0, reads1 := h.reads1, power0 := h.power0, power1 := h.power1, small := h.small }
  · rintro k (hk | hk)
    · exact .inl hk
    · exact .inr hk.1
end

end Go.Proofs.Ytnndkameadlkdaa
