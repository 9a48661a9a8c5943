/- The row of WorldTells. -/
import Derived.Test.YtnndkameadlkdaaLawD
import Derived.Test.YtnndkameadlkdaaRowA
namespace Go.Proofs.Ytnndkameadlkdaa
open Go.ChangeShapes Go.WideShapes Go.ChangeAt Go.RowKit

theorem trodAll_six {H : Type} {enc : TypeId × Value → H} {P : Program} {w : World} {base : Nat} {spare : Nat → Bool} {held : Bool} {t0 t1 t2 t3 t4 t5 : TypeId} {args : Array Value} {ds : List (DataW H)} {ps : List MemPlace} (h : DataW.TrodAll enc P w base spare held [t0, t1, t2, t3, t4, t5] args.toList ds ps) :
    ∃ v0 v1 v2 v3 v4 v5 d0 d1 d2 d3 d4 d5 p0 p1 p2 p3 p4 p5, args = #[v0, v1, v2, v3, v4, v5] ∧ ds = [d0, d1, d2, d3, d4, d5] ∧ DataW.Trod enc P w base spare held t0 v0 d0 p0 ∧ DataW.Trod enc P w base spare held t1 v1 d1 p1 ∧ DataW.Trod enc P w base spare held t2 v2 d2 p2 ∧
      DataW.Trod enc P w base spare held t3 v3 d3 p3 ∧ DataW.Trod enc P w base spare held t4 v4 d4 p4 ∧ DataW.Trod enc P w base spare held t5 v5 d5 p5 := by
  obtain ⟨v0, vs, d0, ds', p0, q, ha, rfl, rfl, h0, hrest⟩ := trodAll_cons h
  obtain ⟨v1, vs, d1, ds', p1, q, rfl, rfl, rfl, h1, hrest⟩ := trodAll_cons hrest
  obtain ⟨v2, vs, d2, ds', p2, q, rfl, rfl, rfl, h2, hrest⟩ := trodAll_cons hrest
  obtain ⟨v3, vs, d3, ds', p3, q, rfl, rfl, rfl, h3, hrest⟩ := trodAll_cons hrest
  obtain ⟨v4, vs, d4, ds', p4, q, rfl, rfl, rfl, h4, hrest⟩ := trodAll_cons hrest
  obtain ⟨v5, vs, d5, ds', p5, q, rfl, rfl, rfl, h5, hrest⟩ := trodAll_cons hrest
  obtain ⟨rfl, rfl, rfl⟩ := trodAll_nil hrest
  exact ⟨v0, v1, v2, v3, v4, v5, d0, d1, d2, d3, d4, d5, p0, p1, p2, p3, p4, p5, by cases args; simp_all, rfl, h0, h1, h2, h3, h4, h5⟩

set_option maxRecDepth 100000 in
theorem worldTells_lifted (os : Os) (started : os.Started) (H : Type) (enc : TypeId × Value → H) :
    ReturnsInHanded {} Try.checked os 3 .any (Rows.worldTellsSpec.pre6 enc Try.prog Try.f3 Rows.worldTellsRow.domain false) (Rows.worldTellsSpec.post enc Try.prog Try.f3 false true false false) := by
  refine returnsInHanded_of_change_sized (C := Try.checked) Try.own started (by kernel_rfl) Try.func3
    (ChangeSpec.witness6 (enc := enc) (C := Try.checked) false ⟨#[], #[.slice none 0 0, .slice none 0 0, .slice none 0 0, .int .u8 0, .int .u8 0, .int .u8 0], []⟩ 8 (by kernel_rfl) (by kernel_rfl) (by kernel_rfl) (by kernel_rfl)) ?_
  intro W base args ds gs before hval0 hW hcnd hsz0 _
  have hval : ∀ (j : Nat) t v, Try.f3.params[j]? = some t → args[j]? = some v → Value.okWide Try.prog W .any base t v := hval0
  have hW' : DataW.Whole enc Try.prog Try.f3.params.toList Rows.worldTellsSpec.vars false W args.toList ds gs before := hW
  obtain ⟨p, q, hA0, hV, rfl, hfz, hnd⟩ := hW
  have hA : DataW.TrodAll enc Try.prog W 0 (fun _ => true) true Try.f3.params.toList args.toList ds p := hA0
  have hsz : (DataW.weightsEach Try.prog (Try.f3.params.toList ++ Rows.worldTellsSpec.plain.varTypes Try.prog) (ds ++ gs)).all (· ≤ reachBytes) = true := hsz0
  obtain ⟨rfl, rfl⟩ := trodVars_none hV
  rw [Try.params3] at hA hval hsz
  obtain ⟨v0, v1, v2, v3, v4, v5, d0, d1, d2, d3, d4, d5, p0, p1, p2, p3, p4, p5, rfl, rfl, h0, h1, h2, h3, h4, h5⟩ := trodAll_six hA
  have hb5 : Try.prog.bytesOf 5 = 1 := by kernel_rfl
  have hc5 : Try.prog.cellsOf 5 = 1 := by kernel_rfl
  have hrb : reachBytes ≤ 140737488355328 := by decide
  obtain ⟨a, ha⟩ := came_bytes Try.underlying22 Try.underlying5 hc5 (hval 0 22 v0 rfl rfl) h0 (fun el sp e => by
    subst e
    have := sized_slice hsz (j := 0) (t := 22) (e := 5) rfl rfl Try.underlying22
    rw [hb5] at this
    omega)
  obtain ⟨b, hb⟩ := came_bytes Try.underlying22 Try.underlying5 hc5 (hval 1 22 v1 rfl rfl) h1 (fun el sp e => by
    subst e
    have := sized_slice hsz (j := 1) (t := 22) (e := 5) rfl rfl Try.underlying22
    rw [hb5] at this
    omega)
  obtain ⟨l, hl⟩ := came_bytes Try.underlying22 Try.underlying5 hc5 (hval 2 22 v2 rfl rfl) h2 (fun el sp e => by
    subst e
    have := sized_slice hsz (j := 2) (t := 22) (e := 5) rfl rfl Try.underlying22
    rw [hb5] at this
    omega)
  obtain ⟨x, rfl, hx⟩ := came_byte Try.underlying5 (hval 3 5 v3 rfl rfl) h3
  obtain ⟨y, rfl, hy⟩ := came_byte Try.underlying5 (hval 4 5 v4 rfl rfl) h4
  obtain ⟨z, rfl, hz⟩ := came_byte Try.underlying5 (hval 5 5 v5 rfl rfl) h5
  refine (tells_walk W _ _ _ a b l x y z ha hb hl hx hy hz).mono fun e W' ⟨he, hev⟩ => ?_
  exact ⟨_, he, law_post Try.laidOut Try.underlying4 hW' rfl (by kernel_rfl) rfl (by kernel_rfl) (hev.below (Nat.le_refl _) (fun _ hf => hf.elim))⟩

theorem worldTells_holds : Rows.WorldTellsSaid :=
  OpenClaim.holds_of_wide 3 Try.f3 rfl rfl rfl rfl rfl rfl rfl ⟨rfl, rfl, rfl, rfl, rfl⟩ rfl rfl rfl rfl rfl (by kernel_rfl) Try.func3 (by kernel_rfl)
    (of_decide_eq_true (by kernel_rfl)) (by unfold Func.isWrapper; rw [if_neg (of_decide_eq_false (by kernel_rfl))]; exact ⟨rfl, rfl⟩)
    (fun os started H enc _ => worldTells_lifted os started H enc)

end Go.Proofs.Ytnndkameadlkdaa
