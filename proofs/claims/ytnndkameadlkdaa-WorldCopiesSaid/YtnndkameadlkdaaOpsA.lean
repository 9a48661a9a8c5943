/- The contracts of package world's inner functions, said of a world as data. -/
import Derived.Test.YtnndkameadlkdaaRep
namespace Go.Proofs.Ytnndkameadlkdaa
open Go.RowKit

/-- F and what is new. -/
def Plus (F : Nat → Prop) (w w' : World) (k : Nat) : Prop := F k ∨ (w.heap.size ≤ k ∧ k < w'.heap.size)

section
variable {w : World} {b : Nat} {t : WS} {F : Nat → Prop} {ms ml : Nat} {s0 s1 tv : Value} {M L : Value → Option Value} {bs : List Value}

/-- What a step keeps that turns the rows of traces, and worlds, alone. -/
theorem RepG.turn {w' : World} {t' : WS} {tv' : Value} {bs' : List Value} {F' : Nat → Prop} (h : RepG w b t F ms ml s0 s1 tv M L bs)
    (hb : w'.heap[b]? = some (.cells (wcells t' ms ml s0 s1 tv') 73 (0, 0))) (hm : ∀ (k : Nat) (es : Array MapEntry) (c : Nat), w.heap[k]? = some (Obj.map es c) → w'.heap[k]? = w.heap[k]?) (h96 : SameKind 96 w w') (h5 : SameKind 5 w w')
    (hF : ∀ k, F k → F' k) (hF' : ∀ k, F' k → k < w'.heap.size) (ht : TraceR w' F' tv' t'.trace bs')
    (e1 : t'.slots = t.slots) (e2 : t'.seals = t.seals) (e3 : t'.lies = t.lies) (b0 : 0 ≤ t'.blocks) (b1 : t'.blocks ≤ 4096) (c0 : 0 ≤ t'.counter) (c1 : t'.counter ≤ 18446744073709551615)
    (r0 : 0 ≤ t'.reads) (r1 : t'.reads ≤ 950000) (p0 : 0 ≤ t'.power) (p1 : t'.power ≤ 1000000) (hs : t'.trace.length ≤ 900000) : RepG w' b t' F' ms ml s0 s1 tv' M L bs' where
  cell := hb
  fb := hF _ h.fb
  fms := hF _ h.fms
  fml := hF _ h.fml
  ne := h.ne
  lt := hF'
  slots := by
    rw [e1]
    obtain ⟨es, c, hes, _⟩ := h.slots.map
    exact h.slots.keep (hm _ _ _ hes) h96 hF
  lies := by
    rw [e3]
    obtain ⟨es, c, hes, _⟩ := h.lies.map
    exact h.lies.keep (hm _ _ _ hes) h5 hF
  seal0 := by rw [e2]; exact h.seal0.same h5 hF
  seal1 := by rw [e2]; exact h.seal1.same h5 hF
  trace := ht
  ok0 := by rw [e2]; exact h.ok0
  ok1 := by rw [e2]; exact h.ok1
  blocks0 := b0
  blocks1 := b1
  counter0 := c0
  counter1 := c1
  reads0 := r0
  reads1 := r1
  power0 := p0
  power1 := p1
  small := hs

theorem map_setCell {w : World} (p : Addr) (u : Value) (k : Nat) (es : Array MapEntry) (c : Nat) (h : w.heap[k]? = some (Obj.map es c)) : (w.setCell p u).heap[k]? = w.heap[k]? := by
  simp only [World.setCell, Array.getElem?_modify, h]
  split <;> rfl

theorem trCells_snoc (ts : List Tr) (bs : List Value) (h : bs.length = ts.length) (x : Tr) (v : Value) : trCells (ts ++ [x]) (bs ++ [v]) = trCells ts bs ++ [.int .i64 x.kind, .int .i64 x.at_, .int .i64 x.slot, v] := by
  unfold trCells
  rw [List.zip_append h.symm]
  simp

/-! note -/
theorem R_note (h : RepG w b t F ms ml s0 s1 tv M L bs) (kd a s : Int) (bv : Value) (l : List Int) (hs : Src w 1 bv l.length (bys l)) (hl : Okb l) (hsm : t.trace.length < 900000) :
    Calls Try.prog 34 #[wp0 b, .int .i64 kd, .int .i64 a, .int .i64 s, bv] w fun e w' => e = .returned (.tuple #[]) ∧ ∃ tv' bs', RepG w' b (t.note kd a s l) (Plus F w w') ms ml s0 s1 tv' M L bs' ∧ Evo F w w' := by
  have hk := ownsRow_kind h.trace.row
  have htb : ∀ g, tv.ownBlock = some g → g ≠ b := by
    rintro g hg rfl
    obtain ⟨c, f, h2⟩ := hk g hg
    rw [h.cell] at h2
    injection h2 with h2
    injection h2 with _ h3
    cases h3
  refine (note_walk b kd a s bv tv l t.trace.length (trCells t.trace bs) w (blk_cell h.cell 10) (blk_frozen h.cell 10) hs hl.1 h.trace.row (by have := h.small; omega) htb).mono ?_
  rintro e w' ⟨rfl, v1, w1, v2, w2, hown1, hg1, hown2, hg2, hat2, rfl⟩
  refine ⟨rfl, v2, bs ++ [v1], ?_, ?_⟩
  · have hb1 : w1.heap[b]? = w.heap[b]? := hg1.block b (heap_lt h.cell) (by simp)
    have hb2 : w2.heap[b]? = some (.cells (wcells t ms ml s0 s1 tv) 73 (0, 0)) := (hg2.block b (Nat.lt_of_lt_of_le (heap_lt h.cell) hg1.size) (fun e => htb b e.symm rfl)).trans (hb1.trans h.cell)
    have hk1 : ∀ g, tv.ownBlock = some g → ∃ c f, w1.heap[g]? = some (.cells c 52 f) := fun g hg => by
      obtain ⟨c, f, h2⟩ := hk g hg
      exact ⟨c, f, (hg1.block g (heap_lt h2) (by simp)).trans h2⟩
    have S : ∀ e, e ≠ 52 → e ≠ 73 → SameKind e w (w2.setCell ⟨b, 10, none⟩ v2) := fun e he1 he2 =>
      ((((SameKind.refl e w).fresh hg1).grown hg2 hk1 he1).setCell (p := ⟨b, 10, none⟩) hb2 he2 v2)
    have hm : ∀ (k : Nat) (es : Array MapEntry) (c : Nat), w.heap[k]? = some (Obj.map es c) → (w2.setCell ⟨b, 10, none⟩ v2).heap[k]? = w.heap[k]? := fun k es c hk => by
      have e1 : w1.heap[k]? = w.heap[k]? := hg1.block k (heap_lt hk) (by simp)
      have e2 : w2.heap[k]? = w1.heap[k]? := hg2.block k (Nat.lt_of_lt_of_le (heap_lt hk) hg1.size) (fun e => by
        obtain ⟨c', f', h2⟩ := hk1 k e.symm
        rw [e1, hk] at h2
        injection h2 with h2
        cases h2)
      rw [map_setCell _ _ k es c (by rw [e2, e1, hk]), e2, e1]
    have hsz : w.heap.size ≤ w2.heap.size := Nat.le_trans hg1.size hg2.size
    have hsz' : (w2.setCell ⟨b, 10, none⟩ v2).heap.size = w2.heap.size := by simp [World.setCell]
    have S5 := S 5 (by decide) (by decide)
    have h52 : SameKind 52 w2 (w2.setCell ⟨b, 10, none⟩ v2) := (SameKind.refl 52 w2).setCell (p := ⟨b, 10, none⟩) hb2 (by decide) v2
    have h5 : SameKind 5 w1 (w2.setCell ⟨b, 10, none⟩ v2) := ((SameKind.refl 5 w1).grown hg2 hk1 (by decide)).setCell (p := ⟨b, 10, none⟩) hb2 (by decide) v2
    have hFm : ∀ k, F k → Plus F w (w2.setCell ⟨b, 10, none⟩ v2) k := fun k hk => .inl hk
    refine h.turn ?_ hm (S 96 (by decide) (by decide)) S5 hFm ?_ ?_ rfl rfl rfl h.blocks0 h.blocks1 h.counter0 h.counter1 h.reads0 h.reads1 h.power0 h.power1 (by simp [WS.note]; omega)
    · exact blk_set hb2 10 v2
    · rintro k (hk | hk)
      · rw [hsz']; exact Nat.lt_of_lt_of_le (h.lt k hk) hsz
      · exact hk.2
    · refine ⟨?_, ?_, by simp [WS.note, h.trace.len], ?_, ?_⟩
      · have : trCells (t.note kd a s l).trace (bs ++ [v1]) = trCells t.trace bs ++ [.int .i64 kd, .int .i64 a, .int .i64 s, v1] := trCells_snoc _ _ h.trace.len _ _
        rw [this]
        have hln : (t.note kd a s l).trace.length = t.trace.length + 1 := by simp [WS.note]
        rw [hln]
        exact ownsRow_same hown2 h52
      · intro g hg
        rcases hat2 with e | e
        · exact .inl (h.trace.mine g (by rw [← e]; exact hg))
        · rw [e] at hg
          cases hg
          have := (hown2.lt _ e).2
          exact .inr ⟨by have := hg1.size; omega, by rw [hsz']; exact this⟩
      · intro i x v hx hv
        simp only [WS.note] at hx
        by_cases hi : i < t.trace.length
        · rw [List.getElem?_append_left hi] at hx
          rw [List.getElem?_append_left (by rw [h.trace.len]; exact hi)] at hv
          exact (h.trace.own i x v hx hv).same S5 hFm
        · rw [List.getElem?_append_right (by omega)] at hx
          rw [List.getElem?_append_right (by rw [h.trace.len]; omega), h.trace.len] at hv
          have hz : i - t.trace.length = 0 := by
            rcases Nat.eq_zero_or_pos (i - t.trace.length) with h0 | h0
            · exact h0
            · rw [List.getElem?_eq_none (by simp; omega)] at hx; cases hx
          rw [hz] at hx hv
          simp only [List.getElem?_cons_zero, Option.some.injEq] at hx hv
          subst hx
          subst hv
          refine ⟨ownsRow_base (ownsRow_same hown1 h5) (fun _ _ => Nat.zero_le _), fun g hg => ?_⟩
          have := hown1.lt g hg
          exact .inr ⟨this.1, by rw [hsz']; exact Nat.lt_of_lt_of_le this.2 hg2.size⟩
      · intro x hx
        simp only [WS.note, List.mem_append, List.mem_singleton] at hx
        rcases hx with hx | rfl
        · exact h.trace.okb x hx
        · exact hl
  · exact (((Evo.refl F w).grown hg1 (by simp)).grown hg2 (fun g hg => .inl (h.trace.mine g hg))).setCell (.inl h.fb) v2

/-! slot -/
theorem bys_zeros : Z96 = (bys zeros272).toArray := rfl

theorem zeros_len : zeros272.length = 272 := List.length_replicate ..
theorem zeros_byt : Byt zeros272 := fun x hx => by
  rw [List.eq_of_mem_replicate hx]; omega

theorem R_slot (h : RepG w b t F ms ml s0 s1 tv M L bs) (a s : Int) :
    Calls Try.prog 36 #[wp0 b, .int .i64 a, .int .i64 s] w fun e w' => ∃ g M', e = .returned (.pointer (some ⟨g, 0, none⟩)) ∧ RepG w' b t (Plus F w w') ms ml s0 s1 tv M' L bs ∧ Evo F w w' ∧
      M' (plk a s) = some (.pointer (some ⟨g, 0, none⟩)) := by
  cases hM : M (plk a s) with
  | some v =>
    obtain ⟨g, rfl, hg1, hg2⟩ := h.slots.some_ a s v hM
    refine (slot_old b ms g a s M w (blk_cell h.cell 1) h.slots.map hM).mono ?_
    rintro e w' ⟨rfl, rfl⟩
    have hev : Evo F w ((w.alloc (.cells #[.int .i64 a, .int .i64 s] 95)).drew.drew) := (((Evo.refl F w).alloc _).drew).drew
    have hk : ∀ k o, w.heap[k]? = some o → (w.alloc (.cells #[.int .i64 a, .int .i64 s] 95)).drew.drew.heap[k]? = some o := fun k o ho => (Below.heap_alloc w _ k (heap_lt ho)).trans ho
    have S : ∀ e, SameKind e w ((w.alloc (.cells #[.int .i64 a, .int .i64 s] 95)).drew.drew) := fun e k c f hx => hk k _ hx
    refine ⟨g, M, rfl, ?_, hev, hM⟩
    refine h.turn (hk _ _ h.cell) (fun k es c hx => (hk _ _ hx).trans hx.symm) (S 96) (S 5) (fun k hx => .inl hx) ?_ (h.trace.keep (S 52) (S 5) (fun k hx => .inl hx)) rfl rfl rfl h.blocks0 h.blocks1 h.counter0 h.counter1 h.reads0 h.reads1 h.power0 h.power1 h.small
    rintro k (hx | hx)
    · exact Nat.lt_of_lt_of_le (h.lt k hx) hev.size
    · exact hx.2
  | none =>
    refine (slot_new b ms a s M w (blk_cell h.cell 1) h.slots.map hM).mono ?_
    rintro e w' ⟨rfl, hM', hz, hg⟩
    obtain ⟨es, c, hes, _⟩ := h.slots.map
    have hne : ∀ {k : Nat} {cs : Array Value} {t' : TypeId} {f : Nat × Nat}, w.heap[k]? = some (.cells cs t' f) → w'.heap[k]? = some (.cells cs t' f) := fun {k cs t' f} hk => (hg.block k (heap_lt hk) (by
      intro e
      cases e
      rw [hes] at hk
      injection hk with hk
      cases hk)).trans hk
    have S : ∀ e, SameKind e w w' := fun e k c f hx => hne hx
    have hev : Evo F w w' := (Evo.refl F w).grown hg (fun g hg => by cases hg; exact .inl h.fms)
    have hFm : ∀ k, F k → Plus F w w' k := fun k hk => .inl hk
    have hml : w'.heap[ml]? = w.heap[ml]? := hg.block ml (h.lt ml h.fml) (fun e => h.ne (by cases e; rfl))
    have hS0 : t.slots a s = zeros272 := h.slots.none_ a s hM
    refine ⟨w.heap.size + 1, upd M (plk a s) (.pointer (some ⟨w.heap.size + 1, 0, none⟩)), rfl, ?_, hev, upd_same _ _ _⟩
    exact {
      cell := hne h.cell
      fb := .inl h.fb
      fms := .inl h.fms
      fml := .inl h.fml
      ne := h.ne
      lt := by
        rintro k (hx | hx)
        · exact Nat.lt_of_lt_of_le (h.lt k hx) hev.size
        · exact hx.2
      slots := {
        map := hM'
        none_ := fun a' s' hn => by
          by_cases he : plk a' s' = plk a s
          · rw [he, upd_same] at hn; cases hn
          · rw [upd_other _ _ he] at hn
            exact h.slots.none_ a' s' hn
        some_ := fun a' s' v hv => by
          by_cases he : plk a' s' = plk a s
          · rw [he, upd_same] at hv
            cases hv
            obtain ⟨rfl, rfl⟩ := plk_inj he
            refine ⟨_, rfl, .inr ⟨by omega, heap_lt hz⟩, ?_⟩
            rw [hS0]
            exact hz
          · rw [upd_other _ _ he] at hv
            obtain ⟨g, h1, h2, h3⟩ := h.slots.some_ a' s' v hv
            exact ⟨g, h1, .inl h2, hne h3⟩
        inj := fun a1 s1 a2 s2 v h1 h2 => by
          by_cases e1 : plk a1 s1 = plk a s
          · by_cases e2 : plk a2 s2 = plk a s
            · obtain ⟨rfl, rfl⟩ := plk_inj e1
              obtain ⟨rfl, rfl⟩ := plk_inj e2
              exact ⟨rfl, rfl⟩
            · rw [e1, upd_same] at h1
              rw [upd_other _ _ e2] at h2
              cases h1
              obtain ⟨g, h3, _, h5⟩ := h.slots.some_ a2 s2 _ h2
              injection h3 with h3
              injection h3 with h3
              injection h3 with h3
              have := heap_lt h5
              omega
          · by_cases e2 : plk a2 s2 = plk a s
            · rw [e2, upd_same] at h2
              rw [upd_other _ _ e1] at h1
              cases h2
              obtain ⟨g, h3, _, h5⟩ := h.slots.some_ a1 s1 _ h1
              injection h3 with h3
              injection h3 with h3
              injection h3 with h3
              have := heap_lt h5
              omega
            · rw [upd_other _ _ e1] at h1
              rw [upd_other _ _ e2] at h2
              exact h.slots.inj a1 s1 a2 s2 v h1 h2
        len := h.slots.len
        byt := h.slots.byt }
      lies := h.lies.keep hml (S 5) hFm
      seal0 := h.seal0.same (S 5) hFm
      seal1 := h.seal1.same (S 5) hFm
      trace := h.trace.keep (S 52) (S 5) hFm
      ok0 := h.ok0, ok1 := h.ok1, blocks0 := h.blocks0, blocks1 := h.blocks1, counter0 := h.counter0, counter1 := h.counter1
      reads0 := h.reads0, reads1 := h.reads1, power0 := h.power0, power1 := h.power1, small := h.small }

/-! told -/
theorem R_told (h : RepG w b t F ms ml s0 s1 tv M L bs) (hr : t.reads ≤ 900000) (bv : Value) (l : List Int) (hs : Src w 1 bv l.length (bys l)) (hl : Okb l) (hbb : ∀ ad n c, bv = .slice (some ad) n c → ad.block ≠ b) :
    Calls Try.prog 38 #[wp0 b, bv] w fun e w' => ∃ A c, e = .returned (.slice A (t.says l).length c) ∧ w'.ownsRow w.heap.size 5 1 (.slice A (t.says l).length c) (t.says l).length (bys (t.says l)) ∧
      RepG w' b t.count F ms ml s0 s1 tv M L bs ∧ Evo F w w' ∧ Okb (t.says l) := by
  have key : ∀ (is : Bool) (xv : Value) (x : List Int), (L (.int .i64 t.reads)).isSome = is → xv = (if is then (L (.int .i64 t.reads)).getD (.slice none 0 0) else bv) → t.says l = x → Src w 1 xv x.length (bys x) → Okb x →
      (∀ ad c, xv = .slice (some ad) x.length c → ad.block ≠ b) →
      Calls Try.prog 38 #[wp0 b, bv] w fun e w' => ∃ A c, e = .returned (.slice A (t.says l).length c) ∧ w'.ownsRow w.heap.size 5 1 (.slice A (t.says l).length c) (t.says l).length (bys (t.says l)) ∧
        RepG w' b t.count F ms ml s0 s1 tv M L bs ∧ Evo F w w' ∧ Okb (t.says l) := by
    intro is xv x his hxv hx hsx hox hbx
    refine (told_walk b ml t.reads bv xv x L w is h.reads0 (by omega) (blk_cell h.cell 5) (blk_cell h.cell 6) (blk_frozen h.cell 6) h.lies.map his hxv hsx hox.1 hbx).mono ?_
    rintro e w' ⟨A, c, rfl, hown, hg⟩
    rw [hx]
    have hc1 : (w.setCell ⟨b, 6, none⟩ (.int .i64 (t.reads + 1))).heap[b]? = some (.cells (wcells t.count ms ml s0 s1 tv) 73 (0, 0)) := blk_set h.cell 6 _
    have S : ∀ e, e ≠ 73 → SameKind e w w' := fun e he => ((SameKind.refl e w).setCell (p := ⟨b, 6, none⟩) h.cell he _).fresh hg
    have hev : Evo F w w' := ((Evo.refl F w).setCell (p := ⟨b, 6, none⟩) (.inl h.fb) _).grown hg (by simp)
    have hsz : (w.setCell ⟨b, 6, none⟩ (.int .i64 (t.reads + 1))).heap.size = w.heap.size := by simp [World.setCell]
    refine ⟨A, c, rfl, hown, ?_, hev, hox⟩
    refine h.turn (t' := t.count) ((hg.block b (by rw [hsz]; exact heap_lt h.cell) (by simp)).trans hc1) (fun k es c hk => ?_) (S 96 (by decide)) (S 5 (by decide)) (fun k hk => hk) (fun k hk => Nat.lt_of_lt_of_le (h.lt k hk) hev.size)
      (h.trace.keep (S 52 (by decide)) (S 5 (by decide)) (fun k hk => hk)) rfl rfl rfl h.blocks0 h.blocks1 h.counter0 h.counter1 (by have := h.reads0; simp [WS.count]; omega) (by simp [WS.count]; omega) h.power0 h.power1 h.small
    exact (hg.block k (by rw [hsz]; exact heap_lt hk) (by simp)).trans (map_setCell _ _ k es c hk)
  cases hlie : t.lies t.reads with
  | none =>
    have hL := h.lies.none_ _ hlie
    exact key false bv l (by rw [hL]; rfl) (by simp) (by simp [WS.says, hlie]) hs hl (fun ad c e => hbb ad _ c e)
  | some x =>
    obtain ⟨v, h1, h2, h3⟩ := h.lies.some_ _ _ hlie
    refine key true v x (by rw [h1]; rfl) (by rw [h1]; simp) (by simp [WS.says, hlie]) h2.src h3 ?_
    rintro ad c rfl e
    obtain ⟨c', f', h4⟩ := ownsRow_kind h2.1 ad.block rfl
    rw [e, h.cell] at h4
    injection h4 with h4
    injection h4 with _ h5
    cases h5

/-! takes -/
theorem R_takes (h : RepG w b t F ms ml s0 s1 tv M L bs) (n : Int) (h0 : 0 ≤ n) (h1 : n ≤ 1000000) (hd : t.dead = false) :
    Calls Try.prog 37 #[wp0 b, .int .i64 n] w fun e w' => e = .returned (.int .i64 (t.takesN n)) ∧ RepG w' b (t.takes n) F ms ml s0 s1 tv M L bs ∧ Evo F w w' ∧ SameKind 96 w w' ∧ SameKind 5 w w' ∧ w'.heap.size = w.heap.size := by
  have fin : ∀ (k : Int) (d : Bool), t.takes n = { t with power := k, dead := d } → 0 ≤ k → k ≤ 1000000 → RepG ((w.setCell ⟨b, 8, none⟩ (.int .i64 k)).setCell ⟨b, 9, none⟩ (.bool d)) b (t.takes n) F ms ml s0 s1 tv M L bs ∧
      Evo F w ((w.setCell ⟨b, 8, none⟩ (.int .i64 k)).setCell ⟨b, 9, none⟩ (.bool d)) ∧ SameKind 96 w ((w.setCell ⟨b, 8, none⟩ (.int .i64 k)).setCell ⟨b, 9, none⟩ (.bool d)) ∧ SameKind 5 w ((w.setCell ⟨b, 8, none⟩ (.int .i64 k)).setCell ⟨b, 9, none⟩ (.bool d)) ∧
      ((w.setCell ⟨b, 8, none⟩ (.int .i64 k)).setCell ⟨b, 9, none⟩ (.bool d)).heap.size = w.heap.size := by
    intro k d hk k0 k1
    have hc1 : (w.setCell ⟨b, 8, none⟩ (.int .i64 k)).heap[b]? = some (.cells (wcells { t with power := k } ms ml s0 s1 tv) 73 (0, 0)) := blk_set h.cell 8 _
    have hc2 : ((w.setCell ⟨b, 8, none⟩ (.int .i64 k)).setCell ⟨b, 9, none⟩ (.bool d)).heap[b]? = some (.cells (wcells { t with power := k, dead := d } ms ml s0 s1 tv) 73 (0, 0)) := blk_set hc1 9 _
    have S : ∀ e, e ≠ 73 → SameKind e w ((w.setCell ⟨b, 8, none⟩ (.int .i64 k)).setCell ⟨b, 9, none⟩ (.bool d)) := fun e he => (((SameKind.refl e w).setCell (p := ⟨b, 8, none⟩) h.cell he _)).setCell (p := ⟨b, 9, none⟩) hc1 he _
    refine ⟨?_, ((Evo.refl F w).setCell (p := ⟨b, 8, none⟩) (.inl h.fb) _).setCell (p := ⟨b, 9, none⟩) (.inl h.fb) _, S 96 (by decide), S 5 (by decide), by simp [World.setCell]⟩
    rw [hk]
    refine h.turn (t' := { t with power := k, dead := d }) hc2 (fun j es c hj => ?_) (S 96 (by decide)) (S 5 (by decide)) (fun k hk => hk) (fun j hj => by simpa [World.setCell] using h.lt j hj)
      (h.trace.keep (S 52 (by decide)) (S 5 (by decide)) (fun k hk => hk)) rfl rfl rfl h.blocks0 h.blocks1 h.counter0 h.counter1 h.reads0 h.reads1 k0 k1 h.small
    rw [map_setCell _ _ j es c ((map_setCell _ _ j es c hj).trans hj), map_setCell _ _ j es c hj]
  have hp0 := h.power0
  have hp1 := h.power1
  cases ha : t.armed with
  | false =>
    have e1 : t.takesN n = n := by simp [WS.takesN, ha]
    have e2 : t.takes n = t := by simp [WS.takes, ha]
    rw [e1, e2]
    refine (takes_un b n w (by have := blk_cell h.cell 7; simpa [wcells, ha] using this)).mono ?_
    rintro e w' ⟨rfl, rfl⟩
    exact ⟨rfl, h, Evo.refl F w, SameKind.refl _ _, SameKind.refl _ _, rfl⟩
  | true =>
    have c7 : w.cell? ⟨b, 7, none⟩ = some (.bool true) := by have := blk_cell h.cell 7; simpa [wcells, ha] using this
    by_cases hle : n ≤ t.power
    · have e1 : t.takesN n = n := by simp [WS.takesN, ha]; omega
      have e2 : t.takes n = { t with power := t.power - n, dead := false } := by
        have : min n t.power = n := by omega
        simp [WS.takes, ha, this]
      rw [e1]
      refine (takes_full b n t.power t.dead w h0 (by omega) hle hp1 c7 (blk_cell h.cell 8) (blk_cell h.cell 9) (blk_frozen h.cell 8) (blk_frozen h.cell 9)).mono ?_
      rintro e w' ⟨rfl, rfl⟩
      exact ⟨rfl, fin _ _ e2 (by omega) (by omega)⟩
    · have e1 : t.takesN n = t.power := by simp [WS.takesN, ha]; omega
      have e2 : t.takes n = { t with power := 0, dead := true } := by
        have : min n t.power = t.power := by omega
        have h3 : t.power < n := by omega
        simp [WS.takes, ha, this, h3]
      rw [e1]
      refine (takes_part b n t.power t.dead w hp0 (by omega) (by omega) hp1 c7 (blk_cell h.cell 8) (blk_cell h.cell 9) (blk_frozen h.cell 8) (blk_frozen h.cell 9)).mono ?_
      rintro e w' ⟨rfl, rfl⟩
      exact ⟨rfl, fin _ _ e2 (by omega) (by omega)⟩
end

end Go.Proofs.Ytnndkameadlkdaa
