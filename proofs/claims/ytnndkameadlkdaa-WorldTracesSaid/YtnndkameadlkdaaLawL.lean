/- The walk of WorldBumps. -/
import Derived.Test.YtnndkameadlkdaaLawK
namespace Go.Proofs.Ytnndkameadlkdaa
open Go.RowKit

theorem Rep.num {w : World} {b : Nat} {t : WS} {F : Nat → Prop} (h : Rep w b t F) : 0 ≤ t.counter ∧ t.counter ≤ 18446744073709551615 ∧ 0 ≤ t.power := by
  obtain ⟨⟨ms, ml, s0, s1, tv, M, L, bs, h⟩, _⟩ := h
  exact ⟨h.counter0, h.counter1, h.power0⟩

set_option maxRecDepth 100000 in
set_option maxHeartbeats 400000 in
theorem bumps_walk (w : World) (v : Value) (ds : List DoD) (n : Int) (h : ArgD w v ds) (hn : 0 ≤ n ∧ n ≤ 18446744073709551615) :
    Calls Try.prog 7 #[.int .u64 n, v] w fun e w' => e = .returned (.bool true) ∧ Evo (fun _ => False) w w' := by
  have hlen := h.len
  have hsw := small_walk w v ds h
  obtain ⟨A, c, rfl, hc⟩ : ∃ A c, v = .slice A ds.length c ∧ ds.length ≤ c := by obtain ⟨A, c, e, h, _⟩ := h.src; exact ⟨A, c, e, h⟩
  by_cases hsm : ds.length ≤ 40 ∧ longs ds ≤ 3000
  · rw [decide_eq_true hsm] at hsw
    go_enter Try.func7, Try.ntmps7
    go_wp2_with fail
    refine hsw.mono ?_
    rintro e w' ⟨rfl, rfl⟩
    go_wp2_with fail
    refine (R_new 3 w).mono ?_
    rintro e w1 ⟨g, F1, rfl, hR1, hev1, hF1⟩
    have S : St w w1 g (WS.new 3) F1 := ⟨hR1, hev1, hF1⟩
    clear hR1 hev1 hF1 hsw
    go_wp2_with fail
    refine (R_set S.rep n hn.1 hn.2).mono ?_
    rintro e w2 ⟨rfl, hg2⟩
    have S2 := S.goes hg2
    clear S hg2
    go_wp2_with fail
    go_loopg [6, 7, 8, 9, 10, 11] ds.length (fun g0 la i b0 is c0 up wx => ∃ k : Nat, k ≤ ds.length ∧ g0 = ds.length - k ∧ i = .int .i64 k ∧
      ∃ t F, St w wx g t F ∧ la = .int .u64 t.counter ∧ t.trace.length ≤ k)
    case atStart => exact ⟨0, by omega, rfl, rfl, _, _, S2, rfl, by simp [WS.set, WS.new]⟩
    case round =>
      obtain ⟨k, hk, rfl, rfl, t, F, S, rfl, htr⟩ := hrel
      clear S2
      by_cases hkl : k < ds.length
      · have hkz : (k : Int) < (ds.length : Int) := by omega
        obtain ⟨pb, po, rfl, hcell⟩ := (h.srcAt S.evo).doAt hkl
        have hda := h.arg _ (List.getElem_mem hkl)
        have hdl : (ds[k]).b.length ≤ 3000 := Nat.le_trans (longs_each (List.getElem_mem hkl)) hsm.2
        have Hc : Hid (∀ w', Evo (fun _ => False) w w' → ∀ j u, (ds[k]).cells[j]? = some u → w'.cell? ⟨pb, po + k * 5 + j, none⟩ = some u) := fun w' he => by
          obtain ⟨pb', po', e, h1⟩ := (h.srcAt he).doAt hkl
          cases e
          exact h1
        generalize ds[k] = d at *
        have c0 : wr.cell? ⟨pb, po + k * 5, none⟩ = some (.int .i64 d.kind) := hcell 0 _ rfl
        have c1 : wr.cell? ⟨pb, po + k * 5 + 1, none⟩ = some (.int .i64 d.at_) := hcell 1 _ rfl
        have c2 : wr.cell? ⟨pb, po + k * 5 + 2, none⟩ = some (.int .i64 d.slot) := hcell 2 _ rfl
        have c3 : wr.cell? ⟨pb, po + k * 5 + 3, none⟩ = some (.int .i64 d.n) := hcell 3 _ rfl
        have c4 : wr.cell? ⟨pb, po + k * 5 + 4, none⟩ = some d.bv := hcell 4 _ rfl
        clear hcell
        by_cases h9 : d.kind = 9
        · go_wp2
          go_roundg (ds.length - (k + 1))
          case measure => omega
          case rel => exact ⟨k + 1, by omega, rfl, by first | rfl | simp, t, F, S, rfl, by omega⟩
        · have h9b : (d.kind == 9) = false := by simpa using h9
          go_wp2_with fail
          refine (R_did S.rep d (hda.srcAt S.evo) (hda.ok (by omega)) (hda.hF S) (by omega)).mono ?_
          rintro e w3 ⟨vv, F3, rfl, hr, hg⟩
          obtain ⟨A3, c3', rfl, _, _⟩ := hr
          have S3 := S.goes hg
          obtain ⟨hn0, hn1, hn2⟩ := S.rep.num
          have htr3 := did_trace t d hn2
          have hbf := t.bump_fields hn2
          have k0 : w3.cell? ⟨pb, po + k * 5, none⟩ = some (.int .i64 d.kind) := Hc.out w3 S3.evo 0 _ rfl
          clear hg c0 c1 c2 c3 c4 Hc S
          go_wp2_with fail
          refine (R_counter S3.rep).mono ?_
          rintro e w' ⟨rfl, rfl⟩
          go_wp2_with fail
          refine (R_dead S3.rep).mono ?_
          rintro e w' ⟨rfl, rfl⟩
          have S3h := Lib.hid S3
          clear S3
          cases hdd : (t.did d).dead with
          | true =>
            have hcc : (t.did d).counter = t.counter := by
              by_cases h5 : d.kind = 5
              · obtain ⟨e1, e2⟩ := did_bump t d h5
                rw [e1] at hdd ⊢
                cases hb : t.bumpB with
                | true => rw [(hbf.2.2 hb).2] at hdd; cases hdd
                | false => rw [hbf.1, hb]; simp
              · exact did_counter t d h9 h5
            have hct : (t.did d).count64 = 0 := by unfold WS.count64; rw [hdd]; rfl
            rw [hct]
            go_wp2
            go_roundg (ds.length - (k + 1))
            case measure => omega
            case rel => exact ⟨k + 1, by omega, rfl, by first | rfl | simp, _, _, S3h.out, by rw [hcc], by omega⟩
          | false =>
            have hct : (t.did d).count64 = (t.did d).counter := by unfold WS.count64; rw [hdd]; rfl
            rw [hct]
            by_cases h5 : d.kind = 5
            · obtain ⟨e1, e2⟩ := did_bump t d h5
              have h5b : (d.kind == 5) = true := by simpa using h5
              cases hb : t.bumpB with
              | true =>
                have hcc : (t.did d).counter = t.counter + 1 := by rw [e1, hbf.1, hb]; simp
                have hmx := (hbf.2.2 hb).1
                have hw := u64_succ hn0 hn1 hmx
                have hne : (t.counter + 1 == 0) = false := by simp; omega
                rw [hcc, e2, hb]
                go_wp2
                go_roundg (ds.length - (k + 1))
                case measure => omega
                case rel => exact ⟨k + 1, by omega, rfl, by first | rfl | simp, _, _, S3h.out, by rw [hcc], by omega⟩
              | false =>
                have hcc : (t.did d).counter = t.counter := by rw [e1, hbf.1, hb]; simp
                rw [hcc, e2, hb]
                go_wp2
                go_roundg (ds.length - (k + 1))
                case measure => omega
                case rel => exact ⟨k + 1, by omega, rfl, by first | rfl | simp, _, _, S3h.out, by rw [hcc], by omega⟩
            · have h5b : (d.kind == 5) = false := by simpa using h5
              have hcc : (t.did d).counter = t.counter := did_counter t d h9 h5
              rw [hcc]
              go_wp2
              go_roundg (ds.length - (k + 1))
              case measure => omega
              case rel => exact ⟨k + 1, by omega, rfl, by first | rfl | simp, _, _, S3h.out, by rw [hcc], by omega⟩
      · obtain rfl : k = ds.length := by omega
        go_wp2_with fail
        refine (known_walk _).mono ?_
        rintro e w' ⟨rfl, he⟩
        go_wp2_with fail
        go_ret
        exact ⟨rfl, S.evo.two he⟩
  · rw [decide_eq_false hsm] at hsw
    go_enter Try.func7, Try.ntmps7
    go_wp2_with fail
    refine hsw.mono ?_
    rintro e w' ⟨rfl, rfl⟩
    go_wp2_with fail
    refine (known_walk w).mono ?_
    rintro e w' ⟨rfl, he⟩
    go_wp2_with fail
    go_ret
    exact ⟨rfl, he⟩

end Go.Proofs.Ytnndkameadlkdaa
