/- The walk of audit.Straight. -/
import Derived.Test.YtelljdkcgipkkaaStC
import Derived.WalkMore
import Derived.Laws.Cover3
namespace Go.Proofs.Ytelljdkcgipkkaa
open Go.RowKit

/-- What the map of slots says. -/
structure SlotsR (w : World) (m : Nat) (S : Int → Int → List Int) : Prop where
  ex : ∃ F, IsMap w m PlaceKey F ∧ (∀ a s, F (plk a s) = none → S a s = zer) ∧
    ∀ a s v, F (plk a s) = some v → ∃ g, v = .pointer (some ⟨g, 0, none⟩) ∧ w.heap[g]? = some (.cells (bys (S a s)).toArray 43 (0, 0))
  len : ∀ a s, (S a s).length = 272
  byt : ∀ a s, Byt (S a s)

theorem SlotsR.evo {w w' : World} {m : Nat} {S : Int → Int → List Int} (h : SlotsR w m S) (he : Evo (fun _ => False) w w') : SlotsR w' m S := by
  obtain ⟨⟨F, hF, h1, h2⟩, h3, h4⟩ := h
  refine ⟨⟨F, hF.same (he.block m hF.lt (fun hf => hf)), h1, fun a s v hv => ?_⟩, h3, h4⟩
  obtain ⟨g, e, hg⟩ := h2 a s v hv
  exact ⟨g, e, (he.block g (heap_lt hg) (fun hf => hf)).trans hg⟩

theorem run_build43 (w : World) : (Instr.build 43 #[]).run Try.prog w = .ok (.agg (bys zer).toArray) w := by kernel_rfl
theorem run_op_build43 {w : World} {a : Act} {o : Oper} {v : Value} (ho : o.op = .build 43 #[]) (hz : ∀ w, (Instr.build 43 #[]).run Try.prog w = .ok v w) : (execOp a.eval o).run Try.prog w = .ok (.value v) w := by
  unfold execOp
  simp only [ho]
  simp [hz, Result.andThen]
theorem SlotsR.look {w : World} {m : Nat} {S : Int → Int → List Int} (h : SlotsR w m S) (a s : Int) :
    ∃ p, (∀ w', w'.heap[m]? = w.heap[m]? → (Instr.lookup 40 (.map (some m)) (.agg #[.int .i64 a, .int .i64 s]) false).run Try.prog w' = .ok (.pointer p) w') ∧
      ((p = none ∧ S a s = zer) ∨ ∃ g, p = some ⟨g, 0, none⟩ ∧ w.heap[g]? = some (.cells (bys (S a s)).toArray 43 (0, 0))) := by
  obtain ⟨⟨F, hF, h1, h2⟩, h3, h4⟩ := h
  have hl : ∀ w', w'.heap[m]? = w.heap[m]? → (Instr.lookup 40 (.map (some m)) (.agg #[.int .i64 a, .int .i64 s]) false).run Try.prog w' = .ok ((F (plk a s)).getD (.pointer none)) w' := fun w' hw => by
    have := (hF.same hw).look keyRun_place Try.underlying40 (z := .pointer none) (by kernel_rfl) ⟨a, s, rfl⟩ false
    exact this
  cases hc : F (plk a s) with
  | none => exact ⟨none, fun w' hw => by rw [hl w' hw, hc]; rfl, .inl ⟨rfl, h1 _ _ hc⟩⟩
  | some v =>
    obtain ⟨g, rfl, hg⟩ := h2 _ _ _ hc
    exact ⟨some ⟨g, 0, none⟩, fun w' hw => by rw [hl w' hw, hc]; rfl, .inr ⟨g, rfl, hg⟩⟩
theorem SlotsR.mlt {w : World} {m : Nat} {S : Int → Int → List Int} (h : SlotsR w m S) : m < w.heap.size := by obtain ⟨⟨F, hF, _⟩, _⟩ := h; exact hF.lt

theorem SlotsR.put {w : World} {m : Nat} {S : Int → Int → List Int} (h : SlotsR w m S) (a s : Int) (g : Nat) (l : List Int) (hg : w.heap[g]? = some (.cells (bys l).toArray 43 (0, 0))) (hl : l.length = 272) (hb : Byt l) :
    ∃ w', (Instr.mapUpdate 40 (.map (some m)) (.agg #[.int .i64 a, .int .i64 s]) (.pointer (some ⟨g, 0, none⟩))).run Try.prog w = .ok () w' ∧ SlotsR w' m (putS S a s l) ∧ Evo (fun k => k = m) w w' := by
  obtain ⟨⟨F, hF, h1, h2⟩, h3, h4⟩ := h
  obtain ⟨o, hup, hM, _⟩ := hF.store keyRun_place Try.underlying40 ⟨a, s, rfl⟩ (.pointer (some ⟨g, 0, none⟩))
  have hne : ∀ (k : Nat) (c : Array Value) (f : Nat × Nat), w.heap[k]? = some (.cells c 43 f) → k ≠ m := fun k c f hk e => by
    obtain ⟨es, cl, hes, _⟩ := hF
    subst e
    rw [hes] at hk
    cases hk
  have hold : ∀ (k : Nat) (c : Array Value) (f : Nat × Nat), w.heap[k]? = some (.cells c 43 f) → (putObj w m o).heap[k]? = some (.cells c 43 f) := fun k c f hk => by
    rw [putObj_heap, if_neg (fun e => hne k c f hk e.1)]
    exact hk
  refine ⟨putObj w m o, hup, ⟨⟨_, hM, fun a' s' hn => ?_, fun a' s' v hv => ?_⟩, fun a' s' => ?_, fun a' s' => ?_⟩, (Evo.refl (fun k => k = m) w).putObj (.inl rfl) o⟩
  · by_cases e : plk a' s' = plk a s
    · rw [e, upd_same] at hn; cases hn
    · rw [upd_other _ _ e] at hn
      have : ¬ (a' = a ∧ s' = s) := fun h => e (by rw [h.1, h.2])
      rw [putS, if_neg this]
      exact h1 _ _ hn
  · by_cases e : plk a' s' = plk a s
    · rw [e, upd_same] at hv
      cases hv
      rw [putS, if_pos (plk_inj e)]
      exact ⟨g, rfl, hold _ _ _ hg⟩
    · rw [upd_other _ _ e] at hv
      have : ¬ (a' = a ∧ s' = s) := fun h => e (by rw [h.1, h.2])
      rw [putS, if_neg this]
      obtain ⟨g', e1, e2⟩ := h2 _ _ _ hv
      exact ⟨g', e1, hold _ _ _ e2⟩
  · unfold putS; split
    · exact hl
    · exact h3 _ _
  · unfold putS; split
    · exact hb
    · exact h4 _ _

def idx (o : Option Nat) : Int := match o with | none => -1 | some j => j

set_option maxRecDepth 100000 in
set_option maxHeartbeats 4000000 in
theorem straight_walk (w : World) (v : Value) (xs : List TrD) (h : TrSrc w v xs) (hn : xs.length ≤ 1000) :
    Calls Try.prog 8 #[v] w fun e w' => e = .returned (.int .i64 (idx (strF xs (fun _ _ => zer) 0))) ∧ Evo (fun _ => False) w w' := by
  have hmm := @run_makeMap Try.prog
  obtain ⟨A, c, rfl, hc⟩ := h.form
  obtain ⟨m, hm⟩ : ∃ m, w.heap.size = m := ⟨_, rfl⟩
  go_enter Try.func8, Try.ntmps8
  go_wp2
  go_step3
  go_wp2
  go_step3
  go_wp2
  go_loopg [13, 4, 5, 6, 7, 8, 9] xs.length (fun g j i p q r s t wx => ∃ k : Nat, k ≤ xs.length ∧ g = xs.length - k ∧ j = .int .i64 k ∧ Evo (fun _ => False) w wx ∧
    ∃ S, SlotsR wx m S ∧ strF (xs.drop k) S k = strF xs (fun _ _ => zer) 0)
  case atStart =>
    refine ⟨0, by omega, rfl, rfl, (Evo.refl _ w).alloc _, fun _ _ => zer, ⟨⟨fun _ => none, by rw [← hm]; exact IsMap.empty w PlaceKey, fun _ _ _ => rfl, fun _ _ _ hv => (by cases hv)⟩, fun _ _ => List.length_replicate .., fun _ _ x hx => by rw [List.eq_of_mem_replicate hx]; omega⟩, rfl⟩
  case round =>
    obtain ⟨k, hk, rfl, rfl, hev, S, hS, hst⟩ := hrel
    by_cases hkl : k < xs.length
    · have hkz : (k : Int) < (xs.length : Int) := by omega
      obtain ⟨x, hxk⟩ : ∃ x, xs[k]? = some x := ⟨_, List.getElem?_eq_getElem hkl⟩
      obtain ⟨b1, o1, rfl, c0, c1, c2, c3⟩ := (h.evo0 hev).at hxk
      have hdr : xs.drop k = x :: xs.drop (k + 1) := by
        rw [List.drop_eq_getElem_cons hkl, (List.getElem?_eq_some_iff.1 hxk).2]
      rw [hdr] at hst
      obtain ⟨hsx, hbx, hlx⟩ := h.each _ (List.mem_of_getElem? hxk)
      obtain ⟨xk, xa, xs', xv, xb⟩ := x
      dsimp only at *
      obtain ⟨V, cv, rfl, hcv⟩ : ∃ A c, xv = .slice A xb.length c ∧ xb.length ≤ c := by obtain ⟨A, c, e, h, _⟩ := hsx; exact ⟨A, c, e, h⟩
      by_cases h2 : xk = 2
      · subst h2
        have hev2 : Evo (fun _ => False) w ((wr.alloc (.cells #[.int .i64 2, .int .i64 xa, .int .i64 xs', .slice V xb.length cv] 39)).alloc (.cells #[.int .i64 xa, .int .i64 xs'] 42)) := (hev.alloc (.cells #[.int .i64 2, .int .i64 xa, .int .i64 xs', .slice V xb.length cv] 39)).alloc (.cells #[.int .i64 xa, .int .i64 xs'] 42)
        have hev2' : Evo (fun _ => False) wr ((wr.alloc (.cells #[.int .i64 2, .int .i64 xa, .int .i64 xs', .slice V xb.length cv] 39)).alloc (.cells #[.int .i64 xa, .int .i64 xs'] 42)) := ((Evo.refl _ wr).alloc (.cells #[.int .i64 2, .int .i64 xa, .int .i64 xs', .slice V xb.length cv] 39)).alloc (.cells #[.int .i64 xa, .int .i64 xs'] 42)
        have hpad := pad_walk (.slice V xb.length cv) xb 272 _ (hsx.evo0 hev2) hlx (by omega)
        go_wp2_with fail
        refine hpad.mono ?_
        rintro e w1 ⟨A1, c1, rfl, hown, hg⟩
        have hL : 272 ≤ (padTo xb 272).length := by simp [padTo]; omega
        obtain ⟨g1, rfl, _, hc1, hcl⟩ := own_cells hown (by omega)
        have hld := load43 w1 g1 0 (bys (pad272 xb)) (fun j v hj => by rw [Nat.zero_add]; exact hcl j v (pad272_cell hj)) (by rw [bys_length, pad272_len])
        have hev3 : Evo (fun _ => False) w w1 := hev2.grown hg (fun _ hf => by cases hf)
        have hp1 : ∀ i, ((wr.alloc (.cells #[.int .i64 2, .int .i64 xa, .int .i64 xs', .slice V xb.length cv] 39)).alloc (.cells #[.int .i64 xa, .int .i64 xs'] 42)).cell? ⟨wr.heap.size + 1, i, none⟩ = (#[.int .i64 xa, .int .i64 xs'] : Array Value)[i]? := fun i => by
          have := blk_cell (heap_alloc_new (wr.alloc (.cells #[.int .i64 2, .int .i64 xa, .int .i64 xs', .slice V xb.length cv] 39)) (.cells #[.int .i64 xa, .int .i64 xs'] 42)) i
          rw [World.size_alloc] at this
          exact this
        have hp2 : ∀ i v, (#[.int .i64 xa, .int .i64 xs'] : Array Value)[i]? = some v → w1.cell? ⟨wr.heap.size + 1, i, none⟩ = some v := fun i v h => by
          rw [← hp1 i] at h
          exact (World.cell?_of_block (hg.block _ (by simp) (by simp))).trans h
        have q0 := hp2 0 _ rfl
        have q1 := hp2 1 _ rfl
        have hS1 : SlotsR w1 m S := (hS.evo hev2').evo ((Evo.refl _ _).grown hg (fun _ hf => by cases hf))
        clear hp1 hp2
        generalize (padTo xb 272).length = L at *
        have Hld := Lib.hid hld
        clear hld hcl hpad hown hg
        have hLz : (272 : Int) ≤ (L : Int) := by omega
        have harr : ∀ w, (Instr.arrayAt 43 (.slice (some ⟨g1, 0, none⟩) 272 c1)).run Try.prog w = .ok (.pointer (some ⟨g1, 0, none⟩)) w := fun w => run_arrayAt (w := w) (P := Try.prog) 43 5 272 _ 272 c1 Try.underlying43 (by omega)
        have hst := store43 w1 zer (pad272 xb) (List.length_replicate ..) (pad272_len _)
        have hal := run_alloc43 w1
        obtain ⟨W, hW⟩ : ∃ W, W = w1.alloc (.cells (bys zer).toArray 43) := ⟨_, rfl⟩
        obtain ⟨W', hW'⟩ : ∃ W, W = w1.alloc (.cells (bys (pad272 xb)).toArray 43) := ⟨_, rfl⟩
        rw [← hW] at hst hal
        rw [← hW'] at hst
        have ev4 : Evo (fun _ => False) w1 W' := by rw [hW']; exact (Evo.refl _ w1).alloc _
        have hblk : W'.heap[w1.heap.size]? = some (.cells (bys (pad272 xb)).toArray 43 (0, 0)) := by rw [hW']; exact heap_alloc_new _ _
        have r0 := (ev4.cell (World.block_lt_of_cell? _ _ q0) (fun hf => hf)).trans q0
        have r1 := (ev4.cell (World.block_lt_of_cell? _ _ q1) (fun hf => hf)).trans q1
        obtain ⟨W2, hup, hS2, ev5⟩ := (hS1.evo ev4).put xa xs' w1.heap.size (pad272 xb) hblk (pad272_len xb) (pad272_byt hbx)
        have ev6 : Evo (fun _ => False) w W2 := (hev3.two ev4).trans ev5 (fun x hx => .inr (by have : x = m := hx; omega))
        have Hst := Lib.hid hst
        have Hal := Lib.hid hal
        have HW := Lib.hid hW
        have HW' := Lib.hid hW'
        have Hup := Lib.hid hup
        clear hst hal hW hW' hup q0 q1
        go_wp2_with (first | (refine wpList_run rfl (run_op_load rfl Hld.out) ?_) | (refine wpList_run rfl (run_op_alloc rfl Hal.out) ?_) | (refine wpList_void rfl (run_op_store rfl Hst.out) ?_) | (refine wpList_void rfl (run_op_mapUpdate rfl Hup.out) ?_))
        go_roundg (xs.length - (k + 1))
        case measure => omega
        case rel => exact ⟨k + 1, by omega, rfl, by first | rfl | simp, ev6, _, hS2, by rw [strF, if_pos rfl] at hst; exact hst⟩
      by_cases h1 : xk = 1
      · subst h1
        rw [strF, if_neg h2, if_pos rfl] at hst
        clear h2
        obtain ⟨W2, hW2⟩ : ∃ W, W = (wr.alloc (.cells #[.int .i64 1, .int .i64 xa, .int .i64 xs', .slice V xb.length cv] 39)).alloc (.cells #[.int .i64 xa, .int .i64 xs'] 42) := ⟨_, rfl⟩
        obtain ⟨W3, hW3⟩ : ∃ W, W = W2.alloc (.cells (bys zer).toArray 43) := ⟨_, rfl⟩
        obtain ⟨W4, hW4⟩ : ∃ W, W = W2.alloc (.cells (bys (S xa xs')).toArray 43) := ⟨_, rfl⟩
        have hal := run_alloc43 W2
        have hsz := store43 W2 zer zer (List.length_replicate ..) (List.length_replicate ..)
        have hs4 := store43 W2 zer (S xa xs') (List.length_replicate ..) (hS.len _ _)
        have hzv := run_build43
        have e02 : Evo (fun _ => False) wr W2 := by rw [hW2]; exact ((Evo.refl _ wr).alloc _).alloc _
        have e23 : Evo (fun _ => False) W2 W3 := by rw [hW3]; exact (Evo.refl _ W2).alloc _
        have e24 : Evo (fun _ => False) W2 W4 := by rw [hW4]; exact (Evo.refl _ W2).alloc _
        have hsz2 : W2.heap.size = wr.heap.size + 1 + 1 := by rw [hW2]; simp
        have hb0 : W2.heap[wr.heap.size]? = some (.cells #[.int .i64 1, .int .i64 xa, .int .i64 xs', .slice V xb.length cv] 39 (0, 0)) := by
          rw [hW2, Below.heap_alloc _ _ _ (by simp)]
          exact heap_alloc_new _ _
        have hb1 : W2.heap[wr.heap.size + 1]? = some (.cells #[.int .i64 xa, .int .i64 xs'] 42 (0, 0)) := by
          have := heap_alloc_new (wr.alloc (.cells #[.int .i64 1, .int .i64 xa, .int .i64 xs', .slice V xb.length cv] 39)) (.cells #[.int .i64 xa, .int .i64 xs'] 42)
          rw [World.size_alloc] at this
          rw [hW2]
          exact this
        have hS2 := hS.evo e02
        have q0 : W3.cell? ⟨wr.heap.size + 1, 0, none⟩ = some (.int .i64 xa) := (e23.cell (by simp [hsz2]) (fun hf => hf)).trans (blk_cell hb1 0)
        have q1 : W3.cell? ⟨wr.heap.size + 1, 1, none⟩ = some (.int .i64 xs') := (e23.cell (by simp [hsz2]) (fun hf => hf)).trans (blk_cell hb1 1)
        have q3 : W4.cell? ⟨wr.heap.size, 3, none⟩ = some (.slice V xb.length cv) := (e24.cell (by simp [hsz2]; omega) (fun hf => hf)).trans (blk_cell hb0 3)
        have hml : W3.heap[m]? = W2.heap[m]? := e23.block m hS2.mlt (fun hf => hf)
        obtain ⟨p, hlk, hp⟩ := hS2.look xa xs'
        have hlk := hlk W3 hml
        have ev4 : Evo (fun _ => False) w W4 := (hev.two e02).two e24
        have hsrc4 : Src W4 1 (.slice (some ⟨W2.heap.size, 0, none⟩) (S xa xs').length (S xa xs').length) (S xa xs').length (bys (S xa xs')) := by
          rw [hW4]
          exact Src.laid W2 43 (bys (S xa xs')) _ 1 (by rw [bys_length, Nat.mul_one])
        have hEq := equal_walk W4.drew _ _ (S xa xs') xb hsrc4.drew (hsx.evo0 ev4).drew (hS.byt _ _) hbx (by rw [hS.len]; omega) (by omega)
        have hS4 := hS2.evo e24
        have hlen := hS.len xa xs'
        rw [hlen] at hEq
        rw [← hW3] at hal hsz hs4
        rw [← hW4] at hs4
        rw [hW2] at hal
        rw [← hW2, hsz2] at hal
        rw [hsz2] at hsz hs4 hEq
        rw [hW2] at hal
        obtain ⟨VZ, hVZ⟩ : ∃ V, (bys zer).toArray = V := ⟨_, rfl⟩
        obtain ⟨V4, hV4⟩ : ∃ V, (bys (S xa xs')).toArray = V := ⟨_, rfl⟩
        simp only [hVZ] at hzv hal hsz hs4
        rw [hV4] at hs4
        have HV4 := Lib.hid hV4
        have Hzv := Lib.hid hzv
        clear hzv hVZ hV4
        have Hst := Lib.hid hst
        have Hal := Lib.hid hal
        have Hsz := Lib.hid hsz
        have Hs4 := Lib.hid hs4
        have HW2 := Lib.hid hW2
        have HW3 := Lib.hid hW3
        have HW4 := Lib.hid hW4
        have Hlk := Lib.hid hlk
        clear hst hal hsz hs4 hlk hW3 hW4 hsz2 hb0 hb1 hlen hml
        rcases hp with ⟨rfl, hz⟩ | ⟨g, rfl, hg⟩
        · have E34 : Hid (W3 = W4) := by show W3 = W4; rw [HW4.out, HW3.out, hz]
          clear hz
          by_cases hxe : S xa xs' = xb
          · rw [decide_eq_true hxe] at hEq
            have HXE := Lib.hid hxe
            clear hxe
            go_wp2_with (first | (refine wpList_run rfl (run_op_build43 rfl Hzv.out) ?_) | (refine wpList_run rfl (run_op_alloc rfl Hal.out) ?_) | (refine wpList_void rfl (run_op_store rfl Hsz.out) ?_) | (refine wpList_run rfl (run_op_lookup rfl Hlk.out) ?_))
            rw [E34.out]
            refine wp_region_seq (fun w' => w'.cell? ⟨wr.heap.size, 3, none⟩ = some (.slice V xb.length cv)) [0, 1, 2] [0, 1, 2, 3] (by kernel_rfl) (by kernel_rfl) (by rfl) (by kernel_rfl) (fun _ _ _ _ _ h => h) (q3) ?_
            repeat
              apply seq_read (by rfl)
              · (simp only [List.getElem?_toArray, List.getElem?_cons_succ, List.getElem?_cons_zero]; rfl)
              · rfl
              · (intro w' hSw; (first | subst hSw | (try dsimp only at hSw)); go_simp; (try go_bits); (try with_reducible rfl))
              simp only [Act.put, List.setIfInBounds_toArray, List.set_cons_zero, List.set_cons_succ]
            apply seq_act (by rfl)
            · (simp only [List.getElem?_toArray, List.getElem?_cons_succ, List.getElem?_cons_zero]; rfl)
            · rfl
            refine wp_k (fun K hK => ?_)
            go_simp
            refine (hEq).mono ?_
            rintro e w5 ⟨rfl, ev5⟩
            refine hK _ _ ⟨(ev5.cell (World.block_lt_of_cell? W4 _ q3) (fun hf => hf)).trans q3, ?_⟩
            clear hK K
            try simp only [Act.put, List.setIfInBounds_toArray, List.set_cons_zero, List.set_cons_succ]
            refine seq_nil ?_
            have evv : Evo (fun _ => False) w w5 := ev4.two ((Evo.refl _ W4).drew.two ev5)
            have hS5 := hS4.evo ((Evo.refl _ W4).drew.two ev5)
            have hst := Hst.out
            rw [if_pos HXE.out] at hst
            clear ev4 ev5 hEq q3 Hst
            go_wp2
            go_roundg (xs.length - (k + 1))
            case measure => omega
            case rel => exact ⟨k + 1, by omega, rfl, by first | rfl | simp, evv, S, hS5, hst⟩
          · rw [decide_eq_false hxe] at hEq
            have HXE := Lib.hid hxe
            clear hxe
            go_wp2_with (first | (refine wpList_run rfl (run_op_build43 rfl Hzv.out) ?_) | (refine wpList_run rfl (run_op_alloc rfl Hal.out) ?_) | (refine wpList_void rfl (run_op_store rfl Hsz.out) ?_) | (refine wpList_run rfl (run_op_lookup rfl Hlk.out) ?_))
            rw [E34.out]
            refine wp_region_seq (fun w' => w'.cell? ⟨wr.heap.size, 3, none⟩ = some (.slice V xb.length cv)) [0, 1, 2] [0, 1, 2, 3] (by kernel_rfl) (by kernel_rfl) (by rfl) (by kernel_rfl) (fun _ _ _ _ _ h => h) (q3) ?_
            repeat
              apply seq_read (by rfl)
              · (simp only [List.getElem?_toArray, List.getElem?_cons_succ, List.getElem?_cons_zero]; rfl)
              · rfl
              · (intro w' hSw; (first | subst hSw | (try dsimp only at hSw)); go_simp; (try go_bits); (try with_reducible rfl))
              simp only [Act.put, List.setIfInBounds_toArray, List.set_cons_zero, List.set_cons_succ]
            apply seq_act (by rfl)
            · (simp only [List.getElem?_toArray, List.getElem?_cons_succ, List.getElem?_cons_zero]; rfl)
            · rfl
            refine wp_k (fun K hK => ?_)
            go_simp
            refine (hEq).mono ?_
            rintro e w5 ⟨rfl, ev5⟩
            refine hK _ _ ⟨(ev5.cell (World.block_lt_of_cell? W4 _ q3) (fun hf => hf)).trans q3, ?_⟩
            clear hK K
            try simp only [Act.put, List.setIfInBounds_toArray, List.set_cons_zero, List.set_cons_succ]
            refine seq_nil ?_
            have evv : Evo (fun _ => False) w w5 := ev4.two ((Evo.refl _ W4).drew.two ev5)
            have hst := Hst.out
            rw [if_neg HXE.out] at hst
            have HS := Lib.hid hst
            clear ev4 ev5 hEq q3 Hst hst
            go_wp2
            try rw [Exit.noGoto_ret]
            go_ret
            exact ⟨by rw [← HS.out]; rfl, evv⟩
        · have hld := load43 W3 g 0 (bys (S xa xs')) (fun j v hj => by
            rw [Nat.zero_add]
            exact (e23.cell (heap_lt hg) (fun hf => hf)).trans ((blk_cell hg j).trans (by simpa using hj))) (by rw [bys_length, hS.len])
          rw [HV4.out] at hld
          have Hld := Lib.hid hld
          clear hld hg
          by_cases hxe : S xa xs' = xb
          · rw [decide_eq_true hxe] at hEq
            have HXE := Lib.hid hxe
            clear hxe
            go_wp2_with (first | (refine wpList_run rfl (run_op_build43 rfl Hzv.out) ?_) | (refine wpList_run rfl (run_op_alloc rfl Hal.out) ?_) | (refine wpList_void rfl (run_op_store rfl Hsz.out) ?_) | (refine wpList_void rfl (run_op_store rfl Hs4.out) ?_) | (refine wpList_run rfl (run_op_load rfl Hld.out) ?_) | (refine wpList_run rfl (run_op_lookup rfl Hlk.out) ?_))
            refine wp_region_seq (fun w' => w'.cell? ⟨wr.heap.size, 3, none⟩ = some (.slice V xb.length cv)) [0, 1, 2] [0, 1, 2, 3] (by kernel_rfl) (by kernel_rfl) (by rfl) (by kernel_rfl) (fun _ _ _ _ _ h => h) (q3) ?_
            repeat
              apply seq_read (by rfl)
              · (simp only [List.getElem?_toArray, List.getElem?_cons_succ, List.getElem?_cons_zero]; rfl)
              · rfl
              · (intro w' hSw; (first | subst hSw | (try dsimp only at hSw)); go_simp; (try go_bits); (try with_reducible rfl))
              simp only [Act.put, List.setIfInBounds_toArray, List.set_cons_zero, List.set_cons_succ]
            apply seq_act (by rfl)
            · (simp only [List.getElem?_toArray, List.getElem?_cons_succ, List.getElem?_cons_zero]; rfl)
            · rfl
            refine wp_k (fun K hK => ?_)
            go_simp
            refine (hEq).mono ?_
            rintro e w5 ⟨rfl, ev5⟩
            refine hK _ _ ⟨(ev5.cell (World.block_lt_of_cell? W4 _ q3) (fun hf => hf)).trans q3, ?_⟩
            clear hK K
            try simp only [Act.put, List.setIfInBounds_toArray, List.set_cons_zero, List.set_cons_succ]
            refine seq_nil ?_
            have evv : Evo (fun _ => False) w w5 := ev4.two ((Evo.refl _ W4).drew.two ev5)
            have hS5 := hS4.evo ((Evo.refl _ W4).drew.two ev5)
            have hst := Hst.out
            rw [if_pos HXE.out] at hst
            clear ev4 ev5 hEq q3 Hst
            go_wp2
            go_roundg (xs.length - (k + 1))
            case measure => omega
            case rel => exact ⟨k + 1, by omega, rfl, by first | rfl | simp, evv, S, hS5, hst⟩
          · rw [decide_eq_false hxe] at hEq
            have HXE := Lib.hid hxe
            clear hxe
            go_wp2_with (first | (refine wpList_run rfl (run_op_build43 rfl Hzv.out) ?_) | (refine wpList_run rfl (run_op_alloc rfl Hal.out) ?_) | (refine wpList_void rfl (run_op_store rfl Hsz.out) ?_) | (refine wpList_void rfl (run_op_store rfl Hs4.out) ?_) | (refine wpList_run rfl (run_op_load rfl Hld.out) ?_) | (refine wpList_run rfl (run_op_lookup rfl Hlk.out) ?_))
            refine wp_region_seq (fun w' => w'.cell? ⟨wr.heap.size, 3, none⟩ = some (.slice V xb.length cv)) [0, 1, 2] [0, 1, 2, 3] (by kernel_rfl) (by kernel_rfl) (by rfl) (by kernel_rfl) (fun _ _ _ _ _ h => h) (q3) ?_
            repeat
              apply seq_read (by rfl)
              · (simp only [List.getElem?_toArray, List.getElem?_cons_succ, List.getElem?_cons_zero]; rfl)
              · rfl
              · (intro w' hSw; (first | subst hSw | (try dsimp only at hSw)); go_simp; (try go_bits); (try with_reducible rfl))
              simp only [Act.put, List.setIfInBounds_toArray, List.set_cons_zero, List.set_cons_succ]
            apply seq_act (by rfl)
            · (simp only [List.getElem?_toArray, List.getElem?_cons_succ, List.getElem?_cons_zero]; rfl)
            · rfl
            refine wp_k (fun K hK => ?_)
            go_simp
            refine (hEq).mono ?_
            rintro e w5 ⟨rfl, ev5⟩
            refine hK _ _ ⟨(ev5.cell (World.block_lt_of_cell? W4 _ q3) (fun hf => hf)).trans q3, ?_⟩
            clear hK K
            try simp only [Act.put, List.setIfInBounds_toArray, List.set_cons_zero, List.set_cons_succ]
            refine seq_nil ?_
            have evv : Evo (fun _ => False) w w5 := ev4.two ((Evo.refl _ W4).drew.two ev5)
            have hst := Hst.out
            rw [if_neg HXE.out] at hst
            have HS := Lib.hid hst
            clear ev4 ev5 hEq q3 Hst hst
            go_wp2
            try rw [Exit.noGoto_ret]
            go_ret
            exact ⟨by rw [← HS.out]; rfl, evv⟩
      rw [strF, if_neg h2, if_neg h1] at hst
      have h2b : (xk == 2) = false := by simpa using h2
      have h1b : (xk == 1) = false := by simpa using h1
      go_wp2
      go_roundg (xs.length - (k + 1))
      case measure => omega
      case rel => exact ⟨k + 1, by omega, rfl, by first | rfl | simp, (hev.alloc _).alloc _, S, hS.evo (((Evo.refl _ wr).alloc _).alloc _), hst⟩
    · obtain rfl : k = xs.length := by omega
      rw [List.drop_length] at hst
      have Hst := Lib.hid hst
      clear hst
      go_wp2
      try rw [Exit.noGoto_ret]
      go_ret
      exact ⟨by rw [← Hst.out]; rfl, hev⟩

end Go.Proofs.Ytelljdkcgipkkaa
