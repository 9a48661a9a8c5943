/- The row of AuditBegins: whatever the traces, true; they stay as they were. -/
import Derived.Test.YtelljdkcgipkkaaRowC
namespace Go.Proofs.Ytelljdkcgipkkaa
open Go.ChangeShapes Go.WideShapes Go.ChangeAt Go.RowKit

set_option maxRecDepth 100000 in
theorem auditBegins_lifted (os : Os) (started : os.Started) (H : Type) (enc : TypeId × Value → H) :
    ReturnsInHanded {} Try.checked os 4 .any (Rows.auditBeginsSpec.pre6 enc Try.prog Try.f4 Rows.auditBeginsRow.domain false) (Rows.auditBeginsSpec.post enc Try.prog Try.f4 false true false false) := by
  refine returnsInHanded_of_change_sized (C := Try.checked) Try.own started (by kernel_rfl) Try.func4
    (ChangeSpec.witness6 (enc := enc) (C := Try.checked) false ⟨#[], #[.slice none 0 0, .slice none 0 0], []⟩ 8 (by kernel_rfl) (by kernel_rfl) (by kernel_rfl) (by kernel_rfl)) ?_
  intro W base args ds gs before hval0 hW hcnd hsz0 _
  have hval : ∀ (j : Nat) t v, Try.f4.params[j]? = some t → args[j]? = some v → Value.okWide Try.prog W .any base t v := hval0
  have hW' : DataW.Whole enc Try.prog Try.f4.params.toList Rows.auditBeginsSpec.vars false W args.toList ds gs before := hW
  obtain ⟨p, q, hA0, hV, rfl, hfz, hnd⟩ := hW
  have hA : DataW.TrodAll enc Try.prog W 0 (fun _ => true) true Try.f4.params.toList args.toList ds p := hA0
  have hsz : (DataW.weightsEach Try.prog (Try.f4.params.toList ++ Rows.auditBeginsSpec.plain.varTypes Try.prog) (ds ++ gs)).all (· ≤ reachBytes) = true := hsz0
  obtain ⟨rfl, rfl⟩ := trodVars_none hV
  rw [Try.params4] at hA hval hsz
  obtain ⟨v0, v1, d0, d1, p0, p1, rfl, rfl, rfl, h0, h1⟩ := trodAll_two hA
  have hb5 : Try.prog.bytesOf 5 = 1 := by kernel_rfl
  have hc5 : Try.prog.cellsOf 5 = 1 := by kernel_rfl
  have hrb : reachBytes ≤ 140737488355328 := by decide
  obtain ⟨xs, hx⟩ := came_traces Try.underlying29 Try.underlying39 (by kernel_rfl) (by kernel_rfl) rfl rfl rfl rfl Try.underlying3 Try.underlying24 Try.underlying5 hc5 hb5 (of_decide_eq_true (by kernel_rfl)) (hval 0 29 v0 rfl rfl) h0 (fun n hn => by
    have := List.all_eq_true.1 hsz _ (DataW.weights_mem_each (j := 0) (t := 29) rfl rfl n hn)
    simp only [decide_eq_true_eq] at this
    omega)
  obtain ⟨ys, hy⟩ := came_traces Try.underlying29 Try.underlying39 (by kernel_rfl) (by kernel_rfl) rfl rfl rfl rfl Try.underlying3 Try.underlying24 Try.underlying5 hc5 hb5 (of_decide_eq_true (by kernel_rfl)) (hval 1 29 v1 rfl rfl) h1 (fun n hn => by
    have := List.all_eq_true.1 hsz _ (DataW.weights_mem_each (j := 1) (t := 29) rfl rfl n hn)
    simp only [decide_eq_true_eq] at this
    omega)
  refine (auditBegins_walk W _ _ xs ys hx hy).mono fun e W' ⟨he, hev⟩ => ?_
  exact ⟨_, he, law_post Try.laidOut Try.underlying4 hW' rfl (by kernel_rfl) rfl (by kernel_rfl) (hev.below (Nat.le_refl _) (fun _ hf => hf.elim))⟩

theorem auditBegins_holds : Rows.AuditBeginsSaid :=
  OpenClaim.holds_of_wide 4 Try.f4 rfl rfl rfl rfl rfl rfl rfl ⟨rfl, rfl, rfl, rfl, rfl⟩ rfl rfl rfl rfl rfl (by kernel_rfl) Try.func4 (by kernel_rfl)
    (of_decide_eq_true (by kernel_rfl)) (by unfold Func.isWrapper; rw [if_neg (of_decide_eq_false (by kernel_rfl))]; exact ⟨rfl, rfl⟩)
    (fun os started H enc _ => auditBegins_lifted os started H enc)

end Go.Proofs.Ytelljdkcgipkkaa
