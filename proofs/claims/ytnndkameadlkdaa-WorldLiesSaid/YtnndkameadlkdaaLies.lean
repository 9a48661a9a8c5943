/- The row of WorldLies. -/
import Derived.Test.YtnndkameadlkdaaLawF
import Derived.Test.YtnndkameadlkdaaRowA
namespace Go.Proofs.Ytnndkameadlkdaa
open Go.ChangeShapes Go.WideShapes Go.ChangeAt Go.RowKit

theorem worldLies_parts {H : Type} {enc : TypeId × Value → H} {P : Program} {w : World} {base : Nat} {spare : Nat → Bool} {held : Bool} {t0 t1 t2 t3 : TypeId} {args : Array Value} {ds : List (DataW H)} {ps : List MemPlace} (h : DataW.TrodAll enc P w base spare held [t0, t1, t2, t3] args.toList ds ps) :
    ∃ v0 v1 v2 v3 d0 d1 d2 d3 p0 p1 p2 p3, args = #[v0, v1, v2, v3] ∧ ds = [d0, d1, d2, d3] ∧ DataW.Trod enc P w base spare held t0 v0 d0 p0 ∧ DataW.Trod enc P w base spare held t1 v1 d1 p1 ∧ DataW.Trod enc P w base spare held t2 v2 d2 p2 ∧ DataW.Trod enc P w base spare held t3 v3 d3 p3 := by
  obtain ⟨v0, vs, d0, ds', p0, q, ha, rfl, rfl, h0, hrest⟩ := trodAll_cons h
  obtain ⟨v1, vs, d1, ds', p1, q, rfl, rfl, rfl, h1, hrest⟩ := trodAll_cons hrest
  obtain ⟨v2, vs, d2, ds', p2, q, rfl, rfl, rfl, h2, hrest⟩ := trodAll_cons hrest
  obtain ⟨v3, vs, d3, ds', p3, q, rfl, rfl, rfl, h3, hrest⟩ := trodAll_cons hrest
  obtain ⟨rfl, rfl, rfl⟩ := trodAll_nil hrest
  exact ⟨v0, v1, v2, v3, d0, d1, d2, d3, p0, p1, p2, p3, by cases args; simp_all, rfl, h0, h1, h2, h3⟩

set_option maxRecDepth 100000 in
theorem worldLies_lifted (os : Os) (started : os.Started) (H : Type) (enc : TypeId × Value → H) :
    ReturnsInHanded {} Try.checked os 4 .any (Rows.worldLiesSpec.pre6 enc Try.prog Try.f4 Rows.worldLiesRow.domain false) (Rows.worldLiesSpec.post enc Try.prog Try.f4 false true false false) := by
  refine returnsInHanded_of_change_sized (C := Try.checked) Try.own started (by kernel_rfl) Try.func4
    (ChangeSpec.witness6 (enc := enc) (C := Try.checked) false ⟨#[], #[.slice none 0 0, .int .u8 0, .slice none 0 0, .slice none 0 0], []⟩ 8 (by kernel_rfl) (by kernel_rfl) (by kernel_rfl) (by kernel_rfl)) ?_
  intro W base args ds gs before hval0 hW hcnd hsz0 _
  have hval : ∀ (j : Nat) t v, Try.f4.params[j]? = some t → args[j]? = some v → Value.okWide Try.prog W .any base t v := hval0
  have hW' : DataW.Whole enc Try.prog Try.f4.params.toList Rows.worldLiesSpec.vars false W args.toList ds gs before := hW
  obtain ⟨p, q, hA0, hV, rfl, hfz, hnd⟩ := hW
  have hA : DataW.TrodAll enc Try.prog W 0 (fun _ => true) true Try.f4.params.toList args.toList ds p := hA0
  have hsz : (DataW.weightsEach Try.prog (Try.f4.params.toList ++ Rows.worldLiesSpec.plain.varTypes Try.prog) (ds ++ gs)).all (· ≤ reachBytes) = true := hsz0
  obtain ⟨rfl, rfl⟩ := trodVars_none hV
  rw [Try.params4] at hA hval hsz
  obtain ⟨v0, v1, v2, v3, d0, d1, d2, d3, p0, p1, p2, p3, rfl, rfl, h0, h1, h2, h3⟩ := worldLies_parts hA
  have hb5 : Try.prog.bytesOf 5 = 1 := by kernel_rfl
  have hc5 : Try.prog.cellsOf 5 = 1 := by kernel_rfl
  have hrb : reachBytes ≤ 140737488355328 := by decide
  obtain ⟨l0, a0⟩ := came_bytes Try.underlying22 Try.underlying5 hc5 (hval 0 22 v0 rfl rfl) h0 (fun el sp e => by
    subst e
    have := sized_slice hsz (j := 0) (t := 22) (e := 5) rfl rfl Try.underlying22
    rw [hb5] at this
    omega)
  obtain ⟨l1, rfl, a1⟩ := came_byte Try.underlying5 (hval 1 5 v1 rfl rfl) h1
  obtain ⟨l2, a2⟩ := came_bytes Try.underlying22 Try.underlying5 hc5 (hval 2 22 v2 rfl rfl) h2 (fun el sp e => by
    subst e
    have := sized_slice hsz (j := 2) (t := 22) (e := 5) rfl rfl Try.underlying22
    rw [hb5] at this
    omega)
  obtain ⟨l3, a3⟩ := came_bytes Try.underlying22 Try.underlying5 hc5 (hval 3 22 v3 rfl rfl) h3 (fun el sp e => by
    subst e
    have := sized_slice hsz (j := 3) (t := 22) (e := 5) rfl rfl Try.underlying22
    rw [hb5] at this
    omega)
  refine (lies_walk W _ _ _ l0 l2 l3 l1 a0 a2 a3 a1).mono fun e W' ⟨he, hev⟩ => ?_
  exact ⟨_, he, law_post Try.laidOut Try.underlying4 hW' rfl (by kernel_rfl) rfl (by kernel_rfl) (hev.below (Nat.le_refl _) (fun _ hf => hf.elim))⟩

theorem worldLies_holds : Rows.WorldLiesSaid :=
  OpenClaim.holds_of_wide 4 Try.f4 rfl rfl rfl rfl rfl rfl rfl ⟨rfl, rfl, rfl, rfl, rfl⟩ rfl rfl rfl rfl rfl (by kernel_rfl) Try.func4 (by kernel_rfl)
    (of_decide_eq_true (by kernel_rfl)) (by unfold Func.isWrapper; rw [if_neg (of_decide_eq_false (by kernel_rfl))]; exact ⟨rfl, rfl⟩)
    (fun os started H enc _ => worldLies_lifted os started H enc)

end Go.Proofs.Ytnndkameadlkdaa
