/- The data and the walk of WorldTraces. -/
import Derived.Test.YtnndkameadlkdaaLawL
import Derived.Test.YtnndkameadlkdaaTrB
namespace Go.Proofs.Ytnndkameadlkdaa
open Go.RowKit

/-- What is traced behind one thing more. -/
theorem did_traced (t : WS) (d : DoD) : (t.did d).trace = t.trace ∨
    ∃ x, (t.did d).trace = t.trace ++ [x] ∧ d.kind ≤ 5 ∧ t.dead = false ∧ (d.kind = 1 → x.kind = 1 ∧ x.bytes = t.didL d ∧ x.at_ = d.at_) ∧ (d.kind = 2 → x.kind = 2 ∧ x.bytes = d.b ∧ x.slot = d.slot) := by
  unfold WS.did WS.didL
  split
  · rename_i h1
    cases hth : t.there d.at_ d.slot with
    | false => left; simp [WS.read, hth]
    | true =>
      right
      refine ⟨⟨1, d.at_, d.slot, t.told d.at_ d.slot⟩, by simp [WS.read, hth, WS.note, WS.count], by omega, (there_of hth).1, fun _ => ⟨rfl, by simp [WS.readB, hth], rfl⟩, fun h2 => by omega⟩
  split
  · rename_i h1 h2
    cases hth : t.there d.at_ d.slot with
    | false => left; simp [WS.write, hth]
    | true =>
      right
      have e := takes_trace (t.note 2 d.at_ d.slot d.b) 272
      refine ⟨⟨2, d.at_, d.slot, d.b⟩, ?_, by omega, (there_of hth).1, fun h => by omega, fun _ => ⟨rfl, rfl, rfl⟩⟩
      unfold WS.write
      rw [if_pos hth]
      exact e
  split
  · rename_i h1 h2 h3
    cases hth : t.sealed d.at_ with
    | false => left; simp [WS.look, hth]
    | true =>
      right
      refine ⟨⟨3, d.at_, 0, t.says (t.seals d.at_)⟩, by simp [WS.look, hth, WS.note, WS.count], by omega, (sealed_of hth).1, fun h => by omega, fun h => by omega⟩
  split
  · rename_i h1 h2 h3 h4
    cases hth : t.sealed d.at_ with
    | false => left; simp [WS.sealing, hth]
    | true =>
      right
      have e := takes_trace (t.note 4 d.at_ 0 d.b) d.b.length
      refine ⟨⟨4, d.at_, 0, d.b⟩, ?_, by omega, (sealed_of hth).1, fun h => by omega, fun h => by omega⟩
      unfold WS.sealing
      rw [if_pos hth]
      exact e
  split
  · rename_i h1 h2 h3 h4 h5
    unfold WS.bump
    cases hb : t.bumps with
    | false => left; simp
    | true =>
      rw [if_pos rfl]
      split
      · left; exact takes_trace t 1
      · right
        have e := takes_trace t 1
        refine ⟨⟨5, 0, 0, []⟩, ?_, by omega, (bump_facts hb).1, fun h => by omega, fun h => by omega⟩
        show (t.takes 1).trace ++ _ = _
        rw [e]
  split
  · left; rfl
  split
  · left; exact (t.arm_fields _).2
  split
  · left; rfl
  split
  · left; rfl
  · left; rfl

theorem Rep.okb {w : World} {b : Nat} {t : WS} {F : Nat → Prop} (h : Rep w b t F) : ∀ x ∈ t.trace, Okb x.bytes := by
  obtain ⟨⟨ms, ml, s0, s1, tv, M, L, bs, h⟩, _⟩ := h
  exact h.trace.okb

theorem TrOut.evoF {B : Nat} {w w' : World} {v : Value} {ts : List Tr} {us : List Value} {F : Nat → Prop} (h : TrOut B w v ts us) (he : Evo F w w') (hF : ∀ k, F k → k < B) : TrOut B w' v ts us where
  row := ownsRow_evo h.row he (fun g hg hf => by have := (h.row.lt g hg).1; have := hF g hf; omega)
  len := h.len
  own i x u hx hu := ownsRow_evo (h.own i x u hx hu) he (fun g hg hf => by have := ((h.own i x u hx hu).lt g hg).1; have := hF g hf; omega)

set_option maxRecDepth 100000 in
set_option maxHeartbeats 4000000 in
theorem traces_walk (w : World) (v : Value) (ds : List DoD) (h : ArgD w v ds) :
    Calls Try.prog 8 #[v] w fun e w' => e = .returned (.bool true) ∧ Evo (fun _ => False) w w' := by
  have hlen := h.len
  have hsw := small_walk w v ds h
  obtain ⟨A, c, rfl, hc⟩ : ∃ A c, v = .slice A ds.length c ∧ ds.length ≤ c := by obtain ⟨A, c, e, h, _⟩ := h.src; exact ⟨A, c, e, h⟩
  by_cases hsm : ds.length ≤ 40 ∧ longs ds ≤ 3000
  · rw [decide_eq_true hsm] at hsw
    go_enter Try.func8, Try.ntmps8
    go_wp2_with fail
    refine hsw.mono ?_
    rintro e w' ⟨rfl, rfl⟩
    go_wp2_with fail
    refine (R_new 3 w).mono ?_
    rintro e w1 ⟨g, F1, rfl, hR1, hev1, hF1⟩
    have S2 : St w w1 g (WS.new 3) F1 := ⟨hR1, hev1, hF1⟩
    clear hR1 hev1 hF1 hsw
    go_wp2_with fail
    go_loopg [4, 5, 6, 7, 8, 9, 10] ds.length (fun g0 i s5 s6 s7 s8 s9 s10 wx => ∃ k : Nat, k ≤ ds.length ∧ g0 = ds.length - k ∧ i = .int .i64 k ∧
      ∃ t F, St w wx g t F ∧ t.trace.length ≤ k)
    case atStart => exact ⟨0, by omega, rfl, rfl, _, _, S2, by simp [WS.new]⟩
    case round =>
      obtain ⟨k, hk, rfl, rfl, t, F, S, htr⟩ := hrel
      clear S2
      by_cases hkl : k < ds.length
      · have hkz : (k : Int) < (ds.length : Int) := by omega
        obtain ⟨pb, po, rfl, hcell⟩ := (h.srcAt S.evo).doAt hkl
        have hda := h.arg _ (List.getElem_mem hkl)
        have hdl : (ds[k]).b.length ≤ 3000 := Nat.le_trans (longs_each (List.getElem_mem hkl)) hsm.2
        have Hc : Hid (∀ w', Evo (fun _ => False) w w' → ∀ j u, (ds[k]).cells[j]? = some u → w'.cell? ⟨pb, po + k * 5 + j, none⟩ = some u) := fun w' he => by
          obtain ⟨pb', po', e, h1⟩ := (h.srcAt he).doAt hkl
          cases e
          exact h1
        generalize ds[k] = d at *
        clear hcell
        go_wp2_with fail
        refine (R_trace S.rep).mono ?_
        rintro e w3 ⟨va, ua, rfl, ha, hev3⟩
        have hFB := S.rep.lt
        have S3 := S.turn hev3
        obtain ⟨Aa, ca, rfl, hca⟩ := ha.src.form
        clear S hev3
        go_wp2_with fail
        refine (R_dead S3.rep).mono ?_
        rintro e w' ⟨rfl, rfl⟩
        have c0 : w3.cell? ⟨pb, po + k * 5, none⟩ = some (.int .i64 d.kind) := Hc.out w3 S3.evo 0 _ rfl
        have c1 : w3.cell? ⟨pb, po + k * 5 + 1, none⟩ = some (.int .i64 d.at_) := Hc.out w3 S3.evo 1 _ rfl
        have c2 : w3.cell? ⟨pb, po + k * 5 + 2, none⟩ = some (.int .i64 d.slot) := Hc.out w3 S3.evo 2 _ rfl
        have c3 : w3.cell? ⟨pb, po + k * 5 + 3, none⟩ = some (.int .i64 d.n) := Hc.out w3 S3.evo 3 _ rfl
        have c4 : w3.cell? ⟨pb, po + k * 5 + 4, none⟩ = some d.bv := Hc.out w3 S3.evo 4 _ rfl
        go_wp2_with fail
        clear c0 c1 c2 c3 c4
        refine (R_did S3.rep d (hda.srcAt S3.evo) (hda.ok (by omega)) (hda.hF S3) (by omega)).mono ?_
        rintro e w4 ⟨vb, F4, rfl, hb, hg4⟩
        have ha4 := ha.evoF hg4.evo hFB
        have hb4 := hb.mine S3.evo
        have S4 := S3.goes hg4
        have hpow := S3.rep.num.2.2
        obtain ⟨Ab, cb, rfl, hcb⟩ := hb4.form rfl
        clear ha hb hg4 S3 hFB
        go_wp2_with fail
        refine (R_trace S4.rep).mono ?_
        rintro e w5 ⟨vc, uc, rfl, hc5, hev5⟩
        have S5 := S4.turn hev5
        have ha5 := ha4.src.evo0 hev5
        have hb5 := hb4.turn hev5
        have hc5 := hc5.src
        obtain ⟨Ac, cc, rfl, hcc⟩ := hc5.form
        clear S4 ha4 hb4 hev5
        have htd := did_trace t d hpow
        rcases did_traced t d with htr' | ⟨x, htr', hk5, hdead, hx1, hx2⟩
        · rw [htr'] at hc5 hcc
          rw [htr']
          have hsame := sameTrace_walk w5 _ _ t.trace hc5 ha5 (by omega)
          cases hdd : t.dead <;>
          · go_wp2_with fail
            refine hsame.mono ?_
            rintro e w6 ⟨rfl, hev6⟩
            have S6 := Lib.hid (S5.turn hev6)
            clear S5 hc5 ha5 hb5
            go_wp2
            go_roundg (ds.length - (k + 1))
            case measure => omega
            case rel => exact ⟨k + 1, by omega, rfl, by first | rfl | simp, _, _, S6.out, by omega⟩
        · have hln : (t.did d).trace.length = t.trace.length + 1 := by rw [htr']; simp
          have hln' : (t.trace ++ [x]).length = t.trace.length + 1 := by simp
          have hxb : Byt x.bytes := (S5.rep.okb x (by rw [htr']; simp)).2
          rw [htr'] at hc5
          rw [hln'] at hc5
          rw [hln] at hcc
          rw [hln]
          have htk : (t.trace ++ [x]).take t.trace.length = t.trace := by simp
          have hc6 := hc5.take (k := t.trace.length) (by simp)
          rw [htk] at hc6
          have hcl : (t.trace.length : Int) ≤ (cc : Int) := by omega
          have hsame := sameTrace_walk w5 _ _ t.trace hc6 ha5 (by omega)
          rw [hdead]
          go_wp2_with fail
          refine hsame.mono ?_
          rintro e w6 ⟨rfl, hev6⟩
          have S6 := S5.turn hev6
          have hb6 := hb5.turn hev6
          have hxx : (t.trace ++ [x])[t.trace.length]? = some x := by simp
          obtain ⟨b1, o1, u1, rfl, a0, a1, a2, a3, sa⟩ := (hc5.evo0 hev6).at hxx
          obtain ⟨xk, xa, xs, xb⟩ := x
          dsimp only at *
          obtain ⟨Au, cu, rfl, hcu⟩ : ∃ A c, u1 = .slice A xb.length c ∧ xb.length ≤ c := by obtain ⟨A, c, e, h, _⟩ := sa; exact ⟨A, c, e, h⟩
          obtain ⟨W7, hW7⟩ : ∃ W7, W7 = w6.alloc (.cells #[.int .i64 xk, .int .i64 xa, .int .i64 xs, .slice Au xb.length cu] 52) := ⟨_, rfl⟩
          have hevW : Evo (fun _ => False) w6 W7 := by rw [hW7]; exact (Evo.refl _ w6).alloc _
          have S7 := Lib.hid (S6.turn hevW)
          have S8 := Lib.hid (S7.out.turn (Evo.refl _ W7).drew)
          have c0 : W7.cell? ⟨pb, po + k * 5, none⟩ = some (.int .i64 d.kind) := Hc.out W7 S7.out.evo 0 _ rfl
          have c1 : W7.cell? ⟨pb, po + k * 5 + 1, none⟩ = some (.int .i64 d.at_) := Hc.out W7 S7.out.evo 1 _ rfl
          have c2 : W7.cell? ⟨pb, po + k * 5 + 2, none⟩ = some (.int .i64 d.slot) := Hc.out W7 S7.out.evo 2 _ rfl
          have c4 : W7.cell? ⟨pb, po + k * 5 + 4, none⟩ = some d.bv := Hc.out W7 S7.out.evo 4 _ rfl
          have sb := sa.evo0 hevW (fun _ _ _ _ hf => hf)
          have hb7 := hb6.turn hevW
          have hdsrc := hda.srcAt S7.out.evo
          rw [hW7] at c0 c1 c2 c4 sb hb7 hdsrc S8
          clear S7
          have hb7s := hb7.src
          have hk5z : ¬ (5 : Int) < d.kind := by omega
          clear hc5 hc6 ha5 hb5 hb6 S5 S6 sa hsame hev6 hevW hW7 Hc htr' hxx htk hda hb7
          by_cases h1 : d.kind = 1
          · obtain ⟨e1, e2, e3⟩ := hx1 h1
            subst e1
            subst e2
            subst e3
            have h1b : (d.kind == 1) = true := by simpa using h1
            have h2b : (d.kind == 2) = false := by rw [h1]; rfl
            have hsm2 := same_walk _ _ (t.didL d) (t.didL d) _ sb.drew hb7s.drew hxb hxb
            rw [decide_eq_true rfl] at hsm2
            clear hx1 hx2 sb hb7s hdsrc
            go_wp2_with fail
            refine wp_region_seq (fun w' => w' = (w6.alloc (.cells #[.int .i64 1, .int .i64 d.at_, .int .i64 xs, .slice Au (t.didL d).length cu] 52)).drew) [0, 1, 2, 3, 4, 5, 6, 7, 8, 9, 10, 11, 12, 13, 15, 16, 17, 18, 19, 20, 21, 22, 23, 24, 25, 26, 27, 28, 29, 30, 31, 32, 33, 34, 35, 36, 37, 38, 39, 40, 41, 42, 43, 44, 45, 46, 47, 48, 49, 50, 51, 52, 53, 54, 55, 56, 57, 58, 59, 60, 61, 62, 63, 64, 65, 66, 67, 68, 69] [0, 1, 2, 3, 4, 5, 6, 7, 8, 9, 10, 11, 12, 13, 14, 15, 16, 17, 18, 19, 20, 21, 22, 23, 24, 25, 26, 27, 28, 29, 30, 31, 32, 33, 34, 35, 36, 37, 38, 39, 40, 41, 42, 43, 44, 45, 46, 47, 48, 49, 50, 51, 52, 53, 54, 55, 56, 57, 58, 59, 60, 61, 62, 63, 64, 65, 66, 67, 68, 69] (by kernel_rfl) (by kernel_rfl) (by rfl) (by kernel_rfl) (fun _ _ _ _ _ h => h) (rfl) ?_
            repeat
              first
              | (apply seq_read (by rfl)
                 · (simp only [List.getElem?_toArray, List.getElem?_cons_succ, List.getElem?_cons_zero]; rfl)
                 · rfl
                 · (intro w' hSw; (try dsimp only at hSw); go_simp; (try with_reducible rfl))
                 simp only [Act.put, List.setIfInBounds_toArray, List.set_cons_zero, List.set_cons_succ])
              | (apply seq_pass (by rfl)
                 · (simp only [List.getElem?_toArray, List.getElem?_cons_succ, List.getElem?_cons_zero]; rfl)
                 · rfl
                 simp only [Act.put, List.setIfInBounds_toArray, List.set_cons_zero, List.set_cons_succ])
            apply seq_act (by rfl)
            · (simp only [List.getElem?_toArray, List.getElem?_cons_succ, List.getElem?_cons_zero]; rfl)
            · rfl
            refine wp_k (fun K hK => ?_)
            go_simp
            refine (hsm2).mono ?_
            rintro e w' ⟨rfl, rfl⟩
            refine hK _ _ ⟨rfl, ?_⟩
            clear hK K
            try simp only [Act.put, List.setIfInBounds_toArray, List.set_cons_zero, List.set_cons_succ]
            repeat
              first
              | (apply seq_read (by rfl)
                 · (simp only [List.getElem?_toArray, List.getElem?_cons_succ, List.getElem?_cons_zero]; rfl)
                 · rfl
                 · (intro w' hSw; (try dsimp only at hSw); go_simp; (try with_reducible rfl))
                 simp only [Act.put, List.setIfInBounds_toArray, List.set_cons_zero, List.set_cons_succ])
              | (apply seq_pass (by rfl)
                 · (simp only [List.getElem?_toArray, List.getElem?_cons_succ, List.getElem?_cons_zero]; rfl)
                 · rfl
                 simp only [Act.put, List.setIfInBounds_toArray, List.set_cons_zero, List.set_cons_succ])
            refine seq_nil ?_
            go_wp2
            go_roundg (ds.length - (k + 1))
            case measure => omega
            case rel => exact ⟨k + 1, by omega, rfl, by first | rfl | simp, _, _, S8.out, by omega⟩
          · have h1b : (d.kind == 1) = false := by simpa using h1
            by_cases h2 : d.kind = 2
            · obtain ⟨e1, e2, e3⟩ := hx2 h2
              subst e1
              subst e2
              subst e3
              have h2b : (d.kind == 2) = true := by simpa using h2
              have hsm2 := same_walk _ _ d.b d.b _ sb.drew hdsrc.drew hxb hxb
              rw [decide_eq_true rfl] at hsm2
              clear hx1 hx2 sb hb7s hdsrc
              go_wp2_with fail
              refine wp_region_seq (fun w' => w' = (w6.alloc (.cells #[.int .i64 2, .int .i64 xa, .int .i64 d.slot, .slice Au d.b.length cu] 52)).drew) [0, 1, 2, 3, 4, 5, 6, 7, 8, 9, 10, 11, 12, 13, 14, 15, 16, 17, 18, 19, 20, 21, 22, 23, 24, 25, 26, 27, 28, 29, 30, 31, 32, 33, 34, 35, 36, 37, 38, 39, 40, 41, 42, 43, 44, 45, 46, 48, 49, 50, 51, 52, 53, 54, 55, 56, 57, 58, 59, 60, 61, 62, 63, 64, 65, 66, 67, 68, 69] [0, 1, 2, 3, 4, 5, 6, 7, 8, 9, 10, 11, 12, 13, 14, 15, 16, 17, 18, 19, 20, 21, 22, 23, 24, 25, 26, 27, 28, 29, 30, 31, 32, 33, 34, 35, 36, 37, 38, 39, 40, 41, 42, 43, 44, 45, 46, 47, 48, 49, 50, 51, 52, 53, 54, 55, 56, 57, 58, 59, 60, 61, 62, 63, 64, 65, 66, 67, 68, 69] (by kernel_rfl) (by kernel_rfl) (by rfl) (by kernel_rfl) (fun _ _ _ _ _ h => h) (rfl) ?_
              repeat
                first
                | (apply seq_read (by rfl)
                   · (simp only [List.getElem?_toArray, List.getElem?_cons_succ, List.getElem?_cons_zero]; rfl)
                   · rfl
                   · (intro w' hSw; (try dsimp only at hSw); go_simp; (try with_reducible rfl))
                   simp only [Act.put, List.setIfInBounds_toArray, List.set_cons_zero, List.set_cons_succ])
                | (apply seq_pass (by rfl)
                   · (simp only [List.getElem?_toArray, List.getElem?_cons_succ, List.getElem?_cons_zero]; rfl)
                   · rfl
                   simp only [Act.put, List.setIfInBounds_toArray, List.set_cons_zero, List.set_cons_succ])
              apply seq_act (by rfl)
              · (simp only [List.getElem?_toArray, List.getElem?_cons_succ, List.getElem?_cons_zero]; rfl)
              · rfl
              refine wp_k (fun K hK => ?_)
              go_simp
              refine (hsm2).mono ?_
              rintro e w' ⟨rfl, rfl⟩
              refine hK _ _ ⟨rfl, ?_⟩
              clear hK K
              try simp only [Act.put, List.setIfInBounds_toArray, List.set_cons_zero, List.set_cons_succ]
              repeat
                first
                | (apply seq_read (by rfl)
                   · (simp only [List.getElem?_toArray, List.getElem?_cons_succ, List.getElem?_cons_zero]; rfl)
                   · rfl
                   · (intro w' hSw; (try dsimp only at hSw); go_simp; (try with_reducible rfl))
                   simp only [Act.put, List.setIfInBounds_toArray, List.set_cons_zero, List.set_cons_succ])
                | (apply seq_pass (by rfl)
                   · (simp only [List.getElem?_toArray, List.getElem?_cons_succ, List.getElem?_cons_zero]; rfl)
                   · rfl
                   simp only [Act.put, List.setIfInBounds_toArray, List.set_cons_zero, List.set_cons_succ])
              refine seq_nil ?_
              go_wp2
              go_roundg (ds.length - (k + 1))
              case measure => omega
              case rel => exact ⟨k + 1, by omega, rfl, by first | rfl | simp, _, _, S8.out, by omega⟩
            · have h2b : (d.kind == 2) = false := by simpa using h2
              clear hx1 hx2 sb hb7s hdsrc
              go_wp2_with fail
              refine wp_region_seq (fun w' => w' = (w6.alloc (.cells #[.int .i64 xk, .int .i64 xa, .int .i64 xs, .slice Au xb.length cu] 52)).drew) [0, 1, 2, 3, 4, 5, 6, 7, 8, 9, 10, 11, 12, 13, 14, 15, 16, 17, 18, 19, 20, 21, 22, 23, 24, 25, 26, 27, 28, 29, 30, 31, 32, 33, 34, 35, 36, 37, 38, 39, 40, 41, 42, 43, 44, 45, 46, 47, 48, 49, 50, 51, 52, 53, 54, 55, 56, 57, 58, 59, 60, 61, 62, 63, 64, 65, 66, 67, 68, 69] [0, 1, 2, 3, 4, 5, 6, 7, 8, 9, 10, 11, 12, 13, 14, 15, 16, 17, 18, 19, 20, 21, 22, 23, 24, 25, 26, 27, 28, 29, 30, 31, 32, 33, 34, 35, 36, 37, 38, 39, 40, 41, 42, 43, 44, 45, 46, 47, 48, 49, 50, 51, 52, 53, 54, 55, 56, 57, 58, 59, 60, 61, 62, 63, 64, 65, 66, 67, 68, 69] (by kernel_rfl) (by kernel_rfl) (by rfl) (by kernel_rfl) (fun _ _ _ _ _ h => h) (rfl) ?_
              repeat
                first
                | (apply seq_read (by rfl)
                   · (simp only [List.getElem?_toArray, List.getElem?_cons_succ, List.getElem?_cons_zero]; rfl)
                   · rfl
                   · (intro w' hSw; (try dsimp only at hSw); go_simp; (try with_reducible rfl))
                   simp only [Act.put, List.setIfInBounds_toArray, List.set_cons_zero, List.set_cons_succ])
                | (apply seq_pass (by rfl)
                   · (simp only [List.getElem?_toArray, List.getElem?_cons_succ, List.getElem?_cons_zero]; rfl)
                   · rfl
                   simp only [Act.put, List.setIfInBounds_toArray, List.set_cons_zero, List.set_cons_succ])
              refine seq_nil ?_
              go_wp2
              go_roundg (ds.length - (k + 1))
              case measure => omega
              case rel => exact ⟨k + 1, by omega, rfl, by first | rfl | simp, _, _, S8.out, by omega⟩
      · obtain rfl : k = ds.length := by omega
        go_wp2_with fail
        refine (known_walk _).mono ?_
        rintro e w' ⟨rfl, he⟩
        go_wp2_with fail
        go_ret
        exact ⟨rfl, S.evo.two he⟩
  · rw [decide_eq_false hsm] at hsw
    go_enter Try.func8, Try.ntmps8
    go_wp2_with fail
    refine hsw.mono ?_
    rintro e w' ⟨rfl, rfl⟩
    go_wp2_with fail
    refine (known_walk w).mono ?_
    rintro e w' ⟨rfl, he⟩
    go_wp2_with fail
    go_ret
    exact ⟨rfl, he⟩

end Go.Proofs.Ytnndkameadlkdaa
