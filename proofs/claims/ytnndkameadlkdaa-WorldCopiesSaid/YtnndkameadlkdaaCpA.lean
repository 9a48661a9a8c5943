/- What a copy of a world is made of. -/
import Derived.Test.YtnndkameadlkdaaTrB
import Derived.Test.YtnndkameadlkdaaGenG
import Derived.Deep.MidRow
import Derived.Deep.WholeRow
namespace Go.Proofs.Ytnndkameadlkdaa
open Go.RowKit

section
variable {w : World} {b : Nat} {t : WS} {F : Nat → Prop} {ms ml : Nat} {s0 s1 tv : Value} {M L : Value → Option Value} {bs : List Value}

/-- A new slot is laid into the map. -/
theorem RepG.put (h : RepG w b t F ms ml s0 s1 tv M L bs) (a s : Int) (g : Nat) (l : List Int) (hg : w.heap[g]? = some (.cells (bys l).toArray 96 (0, 0))) (hgF : ¬ F g) (hl : l.length = 272) (hb : Byt l) :
    ∃ w', (Instr.mapUpdate 64 (.map (some ms)) (plk a s) (.pointer (some ⟨g, 0, none⟩))).run Try.prog w = .ok () w' ∧
      RepG w' b (t.setSlot a s l) (fun k => F k ∨ k = g) ms ml s0 s1 tv (upd M (plk a s) (.pointer (some ⟨g, 0, none⟩))) L bs ∧ Evo (fun k => k = ms) w w' := by
  obtain ⟨o, hup, hM', ho⟩ := h.slots.map.store keyRun_place Try.underlying64 ⟨a, s, rfl⟩ (.pointer (some ⟨g, 0, none⟩))
  obtain ⟨es, c, hes, _⟩ := h.slots.map
  have hne : ∀ {k : Nat} {cs : Array Value} {t' : TypeId} {f : Nat × Nat}, w.heap[k]? = some (.cells cs t' f) → (putObj w ms o).heap[k]? = some (.cells cs t' f) := fun {k cs t' f} hk => by
    rw [putObj_heap, if_neg]
    · exact hk
    · rintro ⟨rfl, _⟩
      rw [hes] at hk
      injection hk with hk
      cases hk
  have S : ∀ e, SameKind e w (putObj w ms o) := fun e k c f hx => hne hx
  have hFm : ∀ k, F k → F k ∨ k = g := fun k hk => .inl hk
  refine ⟨putObj w ms o, hup, ?_, (Evo.refl (fun k => k = ms) w).putObj (.inl rfl) o⟩
  exact {
    cell := hne h.cell
    fb := .inl h.fb, fms := .inl h.fms, fml := .inl h.fml, ne := h.ne
    lt := by
      rintro k (hx | rfl)
      · rw [putObj_size]; exact h.lt k hx
      · rw [putObj_size]; exact heap_lt hg
    slots := {
      map := hM'
      none_ := fun a' s' hn => by
        by_cases he : plk a' s' = plk a s
        · rw [he, upd_same] at hn; cases hn
        · rw [upd_other _ _ he] at hn
          have : ¬ (a' = a ∧ s' = s) := fun e => he (by rw [e.1, e.2])
          simp only [WS.setSlot, if_neg this]
          exact h.slots.none_ a' s' hn
      some_ := fun a' s' v hv => by
        by_cases he : plk a' s' = plk a s
        · rw [he, upd_same] at hv
          cases hv
          simp only [WS.setSlot, if_pos (plk_inj he)]
          exact ⟨g, rfl, .inr rfl, hne hg⟩
        · rw [upd_other _ _ he] at hv
          have : ¬ (a' = a ∧ s' = s) := fun e => he (by rw [e.1, e.2])
          simp only [WS.setSlot, if_neg this]
          obtain ⟨g', h1, h2, h3⟩ := h.slots.some_ a' s' v hv
          exact ⟨g', h1, .inl h2, hne h3⟩
      inj := fun a1 s1 a2 s2 v h1 h2 => by
        have other : ∀ a' s', plk a' s' ≠ plk a s → upd M (plk a s) (.pointer (some ⟨g, 0, none⟩)) (plk a' s') = some (.pointer (some ⟨g, 0, none⟩)) → False := fun a' s' he hv => by
          rw [upd_other _ _ he] at hv
          obtain ⟨g', h3, h4, _⟩ := h.slots.some_ a' s' _ hv
          injection h3 with h3
          injection h3 with h3
          injection h3 with h3
          subst h3
          exact hgF h4
        by_cases e1 : plk a1 s1 = plk a s
        · by_cases e2 : plk a2 s2 = plk a s
          · obtain ⟨rfl, rfl⟩ := plk_inj e1
            obtain ⟨rfl, rfl⟩ := plk_inj e2
            exact ⟨rfl, rfl⟩
          · rw [e1, upd_same] at h1
            cases h1
            exact (other _ _ e2 h2).elim
        · by_cases e2 : plk a2 s2 = plk a s
          · rw [e2, upd_same] at h2
            cases h2
            exact (other _ _ e1 h1).elim
          · rw [upd_other _ _ e2] at h2
            rw [upd_other _ _ e1] at h1
            exact h.slots.inj a1 s1 a2 s2 v h1 h2
      len := fun a' s' => by simp only [WS.setSlot]; split; exact hl; exact h.slots.len _ _
      byt := fun a' s' => by simp only [WS.setSlot]; split; exact hb; exact h.slots.byt _ _ }
    lies := h.lies.keep (by rw [putObj_heap, if_neg (fun e => h.ne e.1.symm)]) (S 5) hFm
    seal0 := h.seal0.same (S 5) hFm
    seal1 := h.seal1.same (S 5) hFm
    trace := h.trace.keep (S 52) (S 5) hFm
    ok0 := h.ok0, ok1 := h.ok1, blocks0 := h.blocks0, blocks1 := h.blocks1, counter0 := h.counter0, counter1 := h.counter1
    reads0 := h.reads0, reads1 := h.reads1, power0 := h.power0, power1 := h.power1, small := h.small }
end

/-- A copy, as it begins. -/
def WS.bare (t : WS) : WS := { t with reads := 0, slots := fun _ _ => zeros272, seals := fun i => if i = 0 ∨ i = 1 then [] else t.seals i, lies := fun _ => none }

/-- What lies there when the copy's block is made. -/
structure Parts (w wl : World) (t : WS) (ma mb : Nat) (v : Value) : Prop where
  sl : IsMap wl ma PlaceKey (fun _ => none)
  li : IsMap wl mb (IntKey .i64) (fun _ => none)
  ne : ma ≠ mb
  na : w.heap.size ≤ ma
  nb : w.heap.size ≤ mb
  tr : ∃ us, TrOut w.heap.size wl v t.trace us
  ev : Evo (fun _ => False) w wl

theorem isMap_at {K : Value → Prop} (w0 : World) {b : Nat} (hb : w0.heap.size = b) : IsMap (w0.alloc (.map #[] 0)) b K (fun _ => none) := by subst hb; exact IsMap.empty _ _
theorem isMap_evo {w w' : World} {K : Value → Prop} {b : Nat} {F : Value → Option Value} (h : IsMap w b K F) (he : Evo (fun _ => False) w w') : IsMap w' b K F := h.same (he.block b h.lt (fun hf => hf))
theorem parts_mk {w u w' wl : World} {t : WS} {ma mb : Nat} {v : Value} {us : List Value} (he0 : Evo (fun _ => False) w u) (hev : Evo (fun _ => False) u w') (htr : TrOut u.heap.size w' v t.trace us) (h2 : Evo (fun _ => False) w' wl)
    (sl : IsMap wl ma PlaceKey (fun _ => none)) (li : IsMap wl mb (IntKey .i64) (fun _ => none)) (ne : ma ≠ mb) (na : w.heap.size ≤ ma) (nb : w.heap.size ≤ mb) : Parts w wl t ma mb v where
  sl := sl
  li := li
  ne := ne
  na := na
  nb := nb
  tr := ⟨us, {
    row := ownsRow_evo (ownsRow_base htr.row (fun g hg => Nat.le_trans he0.size (htr.row.lt g hg).1)) h2 (fun _ _ hf => hf)
    len := htr.len
    own := fun i x y hx hy => ownsRow_evo (ownsRow_base (htr.own i x y hx hy) (fun g hg => Nat.le_trans he0.size ((htr.own i x y hx hy).lt g hg).1)) h2 (fun _ _ hf => hf) }⟩
  ev := (he0.two hev).two h2

section
variable {w w' : World} {t : WS} {v : Value} {us : List Value}
theorem leaf1 (hev : Evo (fun _ => False) (((w.alloc (.map #[] 0)).alloc (.map #[] 0)).drew) w') (htr : TrOut (((w.alloc (.map #[] 0)).alloc (.map #[] 0)).drew).heap.size w' v t.trace us) : Parts w w' t w.heap.size (w.heap.size + 1) v :=
  parts_mk ((((Evo.refl _ w).alloc _).alloc _).drew) hev htr (Evo.refl _ _) (isMap_evo ((IsMap.empty w _).alloc (.map #[] 0)).drew hev) (isMap_evo (isMap_at (w.alloc (.map #[] 0)) (by simp)).drew hev) (by omega) (by omega) (by omega)
theorem leaf3 (hev : Evo (fun _ => False) (((w.alloc (.map #[] 0)).alloc (.map #[] 0)).drew) w') (htr : TrOut (((w.alloc (.map #[] 0)).alloc (.map #[] 0)).drew).heap.size w' v t.trace us) : Parts w w' t (w.heap.size + 1) w.heap.size v :=
  parts_mk ((((Evo.refl _ w).alloc _).alloc _).drew) hev htr (Evo.refl _ _) (isMap_evo (isMap_at (w.alloc (.map #[] 0)) (by simp)).drew hev) (isMap_evo ((IsMap.empty w _).alloc (.map #[] 0)).drew hev) (by omega) (by omega) (by omega)
theorem leaf2 (hev : Evo (fun _ => False) ((w.alloc (.map #[] 0)).drew) w') (htr : TrOut ((w.alloc (.map #[] 0)).drew).heap.size w' v t.trace us) : Parts w (w'.alloc (.map #[] 0)) t w.heap.size w'.heap.size v := by
  have := hev.size
  simp at this
  exact parts_mk (((Evo.refl _ w).alloc _).drew) hev htr ((Evo.refl _ _).alloc _) ((isMap_evo (IsMap.empty w _).drew hev).alloc _) (IsMap.empty _ _) (by omega) (by omega) (by omega)
theorem leaf4 (hev : Evo (fun _ => False) ((w.alloc (.map #[] 0)).drew) w') (htr : TrOut ((w.alloc (.map #[] 0)).drew).heap.size w' v t.trace us) : Parts w (w'.alloc (.map #[] 0)) t w'.heap.size w.heap.size v := by
  have := hev.size
  simp at this
  exact parts_mk (((Evo.refl _ w).alloc _).drew) hev htr ((Evo.refl _ _).alloc _) (IsMap.empty _ _) ((isMap_evo (IsMap.empty w _).drew hev).alloc _) (by omega) (by omega) (by omega)
theorem leaf5 (hev : Evo (fun _ => False) (w.drew) w') (htr : TrOut (w.drew).heap.size w' v t.trace us) : Parts w ((w'.alloc (.map #[] 0)).alloc (.map #[] 0)) t w'.heap.size (w'.heap.size + 1) v := by
  have := hev.size
  simp at this
  exact parts_mk ((Evo.refl _ w).drew) hev htr (((Evo.refl _ _).alloc _).alloc _) ((IsMap.empty _ _).alloc _) (isMap_at (w'.alloc (.map #[] 0)) (by simp)) (by omega) (by omega) (by omega)
theorem leaf6 (hev : Evo (fun _ => False) (w.drew) w') (htr : TrOut (w.drew).heap.size w' v t.trace us) : Parts w ((w'.alloc (.map #[] 0)).alloc (.map #[] 0)) t (w'.heap.size + 1) w'.heap.size v := by
  have := hev.size
  simp at this
  exact parts_mk ((Evo.refl _ w).drew) hev htr (((Evo.refl _ _).alloc _).alloc _) (isMap_at (w'.alloc (.map #[] 0)) (by simp)) ((IsMap.empty _ _).alloc _) (by omega) (by omega) (by omega)
end

theorem Parts.rep {w wl : World} {t : WS} {ma mb b0 : Nat} {F0 : Nat → Prop} {v : Value} (h : Parts w wl t ma mb v) (hR : Rep w b0 t F0) :
    Rep (wl.alloc (.cells (wcells t.bare ma mb (.slice none 0 0) (.slice none 0 0) v) 73)) wl.heap.size t.bare (fun k => w.heap.size ≤ k ∧ k < wl.heap.size + 1) := by
  obtain ⟨⟨ms, ml, s0, s1, tv, M, L, bs, hg⟩, hrd⟩ := hR
  obtain ⟨us, htr⟩ := h.tr
  have hsz := h.ev.size
  refine ⟨⟨ma, mb, .slice none 0 0, .slice none 0 0, v, fun _ => none, fun _ => none, us, ?_⟩, by simp [WS.bare]⟩
  have S : ∀ e, SameKind e wl (wl.alloc (.cells (wcells t.bare ma mb (.slice none 0 0) (.slice none 0 0) v) 73)) := fun e => (SameKind.refl e wl).alloc _
  exact {
    cell := heap_alloc_new _ _
    fb := by omega
    fms := ⟨h.na, by have := h.sl.lt; omega⟩
    fml := ⟨h.nb, by have := h.li.lt; omega⟩
    ne := h.ne
    lt := fun k hk => by simp; omega
    slots := { map := h.sl.alloc _, none_ := fun a s _ => rfl, some_ := fun a s v hv => (by cases hv), inj := fun a s a' s' v hv => (by cases hv), len := fun _ _ => zeros_len, byt := fun _ _ => zeros_byt }
    lies := { map := h.li.alloc _, none_ := fun n _ => rfl, some_ := fun n x hx => (by cases hx) }
    seal0 := by simpa [WS.bare] using own_nil _ _
    seal1 := by simpa [WS.bare] using own_nil _ _
    trace := {
      row := ownsRow_same (ownsRow_base htr.row (fun g _ => Nat.zero_le g)) (S 52)
      mine := fun g hg => ⟨(htr.row.lt g hg).1, by have := (htr.row.lt g hg).2; omega⟩
      len := htr.len
      own := fun i x u hx hu => ⟨ownsRow_same (ownsRow_base (htr.own i x u hx hu) (fun g _ => Nat.zero_le g)) (S 5), fun g hg => ⟨((htr.own i x u hx hu).lt g hg).1, by have := ((htr.own i x u hx hu).lt g hg).2; omega⟩⟩
      okb := hg.trace.okb }
    ok0 := by simpa [WS.bare] using okb_nil
    ok1 := by simpa [WS.bare] using okb_nil
    blocks0 := hg.blocks0, blocks1 := hg.blocks1, counter0 := hg.counter0, counter1 := hg.counter1
    reads0 := by simp [WS.bare]
    reads1 := by simp [WS.bare]
    power0 := hg.power0, power1 := hg.power1, small := hg.small }

theorem rep_reads {w : World} {c : Nat} {t : WS} {F : Nat → Prop} (h : Rep w c t.bare F) (h0 : 0 ≤ t.reads) (h1 : t.reads ≤ 950000) (h2 : t.reads ≤ t.trace.length) :
    w.cell? ⟨c, 6, none⟩ = some (.int .i64 0) ∧ w.frozen? ⟨c, 6, none⟩ = false ∧ Rep (w.setCell ⟨c, 6, none⟩ (.int .i64 t.reads)) c { t.bare with reads := t.reads } F ∧ F c := by
  obtain ⟨⟨ms, ml, s0, s1, tv, M, L, bs, h⟩, hrd⟩ := h
  exact ⟨blk_cell h.cell 6, blk_frozen h.cell 6, ⟨⟨_, _, _, _, _, _, _, _, h.setCell (t' := { t.bare with reads := t.reads }) 6 (.int .i64 t.reads) rfl rfl rfl rfl rfl h.blocks0 h.blocks1 h.counter0 h.counter1 h0 h1 h.power0 h.power1⟩, h2⟩, h.fb⟩

/-! a slot's bytes -/
theorem size96 : (Try.prog.info? 96).map (·.size) = some 272 := by kernel_rfl
theorem load96 (w : World) (g : Nat) (l : List Int) (hg : w.heap[g]? = some (.cells (bys l).toArray 96 (0, 0))) (hl : l.length = 272) :
    (Instr.loadAt 96 (.pointer (some ⟨g, 0, none⟩))).run Try.prog w = .ok (.agg (bys l).toArray) w := by
  simp only [Instr.loadAt, Instr.sureAddr, Sem.run_bind, Sem.run_pure, Result.andThen]
  exact run_loadVar_mid w g 0 96 (bys l) _ (fun j v hj => by rw [Nat.zero_add, blk_cell hg j]; simpa using hj) Try.underlying96 rfl (by rw [bys_length, hl]; exact size96)
theorem bys_all (l : List Int) : (bys l).toArray.all (·.oneCell') = true := all_oneCell_toArray (bys_one l)
theorem store96 (w : World) (l m : List Int) (hl : l.length = 272) (hm : m.length = 272) :
    (Instr.storeAt 96 (.pointer (some ⟨w.heap.size, 0, none⟩)) (.agg (bys m).toArray)).run Try.prog (w.alloc (.cells (bys l).toArray 96)) = .ok () (w.alloc (.cells (bys m).toArray 96)) :=
  run_storeAt_new w 96 _ _ (by rw [size96]; simp [bys_length, hm]) (by simp [bys_length, hl, hm]) (bys_all m)

/-! atomic loads and stores -/
theorem load64 (b : Nat) (x : Int) (w : World) (hc : w.cell? ⟨b, 6, none⟩ = some (.int .i64 x)) :
    Calls Try.prog 47 #[.pointer (some ⟨b, 6, none⟩)] w fun e w' => e = .returned (.int .i64 x) ∧ w = w' := by
  have ha : (callFunc 57 #[.pointer (some ⟨b, 6, none⟩)]).run Try.prog w = .ok (.value (.int .i64 x)) w := run_call_load Try.func57 (by kernel_rfl) (by kernel_rfl) (by kernel_rfl) .i64 (by kernel_rfl) hc
  go_enter Try.func47, Try.ntmps47
  go_wp2
  go_ret
  exact ⟨rfl, rfl⟩
theorem store64 (b : Nat) (x y : Int) (w : World) (hc : w.cell? ⟨b, 6, none⟩ = some (.int .i64 x)) (hz : w.frozen? ⟨b, 6, none⟩ = false) :
    Calls Try.prog 46 #[.pointer (some ⟨b, 6, none⟩), .int .i64 y] w fun e w' => e = .returned (.tuple #[]) ∧ w.setCell ⟨b, 6, none⟩ (.int .i64 y) = w' := by
  have ha : (callFunc 56 #[.pointer (some ⟨b, 6, none⟩), .int .i64 y]).run Try.prog w = .ok (.value (.tuple #[])) (w.setCell ⟨b, 6, none⟩ (.int .i64 y)) := run_call_store Try.func56 (by kernel_rfl) (by kernel_rfl) (by kernel_rfl) (by kernel_rfl) hc hz
  go_enter Try.func46, Try.ntmps46
  go_wp2
  go_end0
  exact ⟨rfl, rfl⟩

end Go.Proofs.Ytnndkameadlkdaa
