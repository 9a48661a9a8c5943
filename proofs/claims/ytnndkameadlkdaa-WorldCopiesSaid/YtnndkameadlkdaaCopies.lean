/- The row of WorldCopies: whatever is done to a world and to its copy, true; the input reads as it did. -/
import Derived.Test.YtnndkameadlkdaaCpD
import Derived.Test.YtnndkameadlkdaaRowB
namespace Go.Proofs.Ytnndkameadlkdaa
open Go.ChangeShapes Go.WideShapes Go.ChangeAt Go.RowKit

theorem worldCopies_parts {H : Type} {enc : TypeId × Value → H} {P : Program} {w : World} {base : Nat} {spare : Nat → Bool} {held : Bool} {t0 t1 : TypeId} {args : Array Value} {ds : List (DataW H)} {ps : List MemPlace} (h : DataW.TrodAll enc P w base spare held [t0, t1] args.toList ds ps) :
    ∃ v0 v1 d0 d1 p0 p1, args = #[v0, v1] ∧ ds = [d0, d1] ∧ DataW.Trod enc P w base spare held t0 v0 d0 p0 ∧ DataW.Trod enc P w base spare held t1 v1 d1 p1 := by
  obtain ⟨v0, vs, d0, ds', p0, q, ha, rfl, rfl, h0, hrest⟩ := trodAll_cons h
  obtain ⟨v1, vs, d1, ds', p1, q, rfl, rfl, rfl, h1, hrest⟩ := trodAll_cons hrest
  obtain ⟨rfl, rfl, rfl⟩ := trodAll_nil hrest
  exact ⟨v0, v1, d0, d1, p0, p1, by cases args; simp_all, rfl, h0, h1⟩

set_option maxRecDepth 100000 in
theorem worldCopies_lifted (os : Os) (started : os.Started) (H : Type) (enc : TypeId × Value → H) :
    ReturnsInHanded {} Try.checked os 9 .any (Rows.worldCopiesSpec.pre6 enc Try.prog Try.f9 Rows.worldCopiesRow.domain false) (Rows.worldCopiesSpec.post enc Try.prog Try.f9 false true false false) := by
  refine returnsInHanded_of_change_sized (C := Try.checked) Try.own started (by kernel_rfl) Try.func9
    (ChangeSpec.witness6 (enc := enc) (C := Try.checked) false ⟨#[], #[.slice none 0 0, .slice none 0 0], []⟩ 8 (by kernel_rfl) (by kernel_rfl) (by kernel_rfl) (by kernel_rfl)) ?_
  intro W base args ds gs before hval0 hW hcnd hsz0 _
  have hval : ∀ (j : Nat) t v, Try.f9.params[j]? = some t → args[j]? = some v → Value.okWide Try.prog W .any base t v := hval0
  have hW' : DataW.Whole enc Try.prog Try.f9.params.toList Rows.worldCopiesSpec.vars false W args.toList ds gs before := hW
  obtain ⟨p, q, hA0, hV, rfl, hfz, hnd⟩ := hW
  have hA : DataW.TrodAll enc Try.prog W 0 (fun _ => true) true Try.f9.params.toList args.toList ds p := hA0
  have hsz : (DataW.weightsEach Try.prog (Try.f9.params.toList ++ Rows.worldCopiesSpec.plain.varTypes Try.prog) (ds ++ gs)).all (· ≤ reachBytes) = true := hsz0
  obtain ⟨rfl, rfl⟩ := trodVars_none hV
  rw [Try.params9] at hA hval hsz
  obtain ⟨v0, v1, d0, d1, p0, p1, rfl, rfl, h0, h1⟩ := worldCopies_parts hA
  have hb5 : Try.prog.bytesOf 5 = 1 := by kernel_rfl
  have hc5 : Try.prog.cellsOf 5 = 1 := by kernel_rfl
  have hrb : reachBytes ≤ 140737488355328 := by decide
  obtain ⟨l0, a0⟩ := came_dos Try.underlying40 Try.underlying44 (by kernel_rfl) (by kernel_rfl) rfl rfl rfl rfl rfl Try.underlying3 Try.underlying22 Try.underlying5 hc5 hb5 (of_decide_eq_true (by kernel_rfl)) (hval 0 40 v0 rfl rfl) h0 (fun n hn => by
    have := List.all_eq_true.1 hsz _ (DataW.weights_mem_each (j := 0) (t := 40) rfl rfl n hn)
    simp only [decide_eq_true_eq] at this
    omega)
  obtain ⟨l1, a1⟩ := came_dos Try.underlying40 Try.underlying44 (by kernel_rfl) (by kernel_rfl) rfl rfl rfl rfl rfl Try.underlying3 Try.underlying22 Try.underlying5 hc5 hb5 (of_decide_eq_true (by kernel_rfl)) (hval 1 40 v1 rfl rfl) h1 (fun n hn => by
    have := List.all_eq_true.1 hsz _ (DataW.weights_mem_each (j := 1) (t := 40) rfl rfl n hn)
    simp only [decide_eq_true_eq] at this
    omega)
  refine (copies_walk W _ _ l0 l1 a0 a1).mono fun e W' ⟨he, hev⟩ => ?_
  exact ⟨_, he, law_post Try.laidOut Try.underlying4 hW' rfl (by kernel_rfl) rfl (by kernel_rfl) (hev.below (Nat.le_refl _) (fun _ hf => hf.elim))⟩

theorem worldCopies_holds : Rows.WorldCopiesSaid :=
  OpenClaim.holds_of_wide 9 Try.f9 rfl rfl rfl rfl rfl rfl rfl ⟨rfl, rfl, rfl, rfl, rfl⟩ rfl rfl rfl rfl rfl (by kernel_rfl) Try.func9 (by kernel_rfl)
    (of_decide_eq_true (by kernel_rfl)) (by unfold Func.isWrapper; rw [if_neg (of_decide_eq_false (by kernel_rfl))]; exact ⟨rfl, rfl⟩)
    (fun os started H enc _ => worldCopies_lifted os started H enc)

end Go.Proofs.Ytnndkameadlkdaa
