/- A region that draws its order, the last operation of which comes behind all others: it is a region of the others, and that one. -/
import Derived.Test.YtnndkameadlkdaaGenB
import Derived.Orders
namespace Go.Proofs.Ytnndkameadlkdaa
open Go.RowKit

/-- What lies (by edges that bind) ahead of what is marked: one round. -/
def aheadRound (ops : Array Oper) (s : List Bool) : List Bool :=
  (List.range ops.size).map fun i => s.getD i false || (List.range ops.size).any fun j => s.getD j false && ((ops[j]?).map fun o => o.after.any fun e => Region.binds .any e && e.on == i).getD false

def aheadRounds (ops : Array Oper) : Nat → List Bool → List Bool
  | 0, s => s
  | n + 1, s => aheadRounds ops n (aheadRound ops s)

/-- Does the operation number k come behind all others? -/
def comesLast (ops : Array Oper) (k : Nat) : Bool :=
  (List.range ops.size).all fun i => i == k || (aheadRounds ops ops.size ((List.range ops.size).map fun i => i == k)).getD i false

/-- Whatever is listed has what is ahead of it listed. -/
def Shutdown (ops : Array Oper) (listed : Array Bool) : Prop := ∀ j o, ops[j]? = some o → listed.getD j false = true → ∀ e ∈ o.after, Region.binds .any e = true → listed.getD e.on false = true

theorem aheadRound_listed {ops : Array Oper} {listed : Array Bool} (hs : Shutdown ops listed) {s : List Bool} (h : ∀ i, s.getD i false = true → listed.getD i false = true) :
    ∀ i, (aheadRound ops s).getD i false = true → listed.getD i false = true := by
  intro i hi
  unfold aheadRound at hi
  rw [List.getD_eq_getElem?_getD, List.getElem?_map] at hi
  cases hr : (List.range ops.size)[i]? with
  | none => rw [hr] at hi; simp at hi
  | some i' =>
    have hii : i' = i := by
      have := List.getElem?_eq_some_iff.1 hr
      obtain ⟨hl, he⟩ := this
      simp at he
      exact he.symm
    subst hii
    rw [hr] at hi
    simp only [Option.map_some, Option.getD_some, Bool.or_eq_true, List.any_eq_true, Bool.and_eq_true] at hi
    rcases hi with hi | ⟨j, hj, hsj, hb⟩
    · exact h i' hi
    · cases ho : ops[j]? with
      | none => rw [ho] at hb; simp at hb
      | some o =>
        rw [ho] at hb
        simp only [Option.map_some, Option.getD_some] at hb
        obtain ⟨e, he, hx⟩ := Array.any_eq_true'.1 hb
        simp only [Bool.and_eq_true, beq_iff_eq] at hx
        have := hs j o ho (h j hsj) e he hx.1
        rw [hx.2] at this
        exact this

theorem aheadRounds_listed {ops : Array Oper} {listed : Array Bool} (hs : Shutdown ops listed) : ∀ (n : Nat) {s : List Bool}, (∀ i, s.getD i false = true → listed.getD i false = true) →
    ∀ i, (aheadRounds ops n s).getD i false = true → listed.getD i false = true
  | 0, _, h => h
  | n + 1, _, h => aheadRounds_listed hs n (aheadRound_listed hs h)

section
variable {P : Program} {Q : Exit → Act → World → Prop}

theorem shutdown_step {ops : Array Oper} {listed : Array Bool} (hs : Shutdown ops listed) {i : Nat} (hr : i ∈ Region.ready .any ops listed) : Shutdown ops (listed.setIfInBounds i true) := by
  intro j o ho hl e he hb
  by_cases hij : i = j
  · subst hij
    obtain ⟨h0, o', ho', hall⟩ := mem_ready.1 hr
    rw [ho] at ho'
    cases ho'
    exact getD_set_true (hall e he hb)
  · rw [getD_set_ne false hij] at hl
    exact getD_set_true (hs j o ho hl e he hb)

theorem getD_size {l : Array Bool} {i : Nat} (h : l.getD i true = false) : i < l.size := by
  rcases Nat.lt_or_ge i l.size with h' | h'
  · exact h'
  · simp [Array.getElem?_eq_none h'] at h

/-- Do all edges that bind lead back, and all guards to what is not the last? -/
def backward (ops : List Oper) : Bool :=
  (List.range ops.length).all fun i => ((ops[i]?).map fun o => (o.after.all fun e => !Region.binds .any e || decide (e.on < i)) && (match o.guard with | some x => decide (x.1 < i) | none => true)).getD true

theorem backward_spec {ops : List Oper} (h : backward ops = true) {i : Nat} {o : Oper} (ho : ops[i]? = some o) :
    (∀ e ∈ o.after, Region.binds .any e = true → e.on < i) ∧ ∀ x, o.guard = some x → x.1 < i := by
  have hi : i < ops.length := (List.getElem?_eq_some_iff.1 ho).1
  have := List.all_eq_true.1 h i (by simpa using hi)
  rw [ho] at this
  simp only [Option.map_some, Option.getD_some, Bool.and_eq_true] at this
  refine ⟨fun e he hb => ?_, fun x hx => ?_⟩
  · have h1 := Array.all_eq_true_iff_forall_mem.1 this.1 e he
    rw [hb] at h1
    simpa using h1
  · rw [hx] at this
    simpa using this.2

theorem Oper.wp_post {o : Oper} {a : Act} {w : World} {K : Act → World → Prop} {Q' : Exit → Act → World → Prop} (hp : ∀ c a w, Q' (.panic c) a w → Q (.panic c) a w) (ho : ∀ a w, Q' .outgrown a w → Q .outgrown a w)
    (hh : o.wp P a w K Q') : o.wp P a w K Q := by
  unfold Oper.wp at *
  generalize (execOp a.eval o).run P w = r at *
  cases r with
  | ok n w' =>
    cases n <;> simp only [Oper.upon] at hh ⊢ <;>
      first
        | exact hh
        | exact Calls.mono hh (fun e w'' he => by
            cases e with
            | returned v => exact he
            | panicked c => exact hp _ _ _ he
            | outgrown => obtain ⟨a0, w0, h0⟩ := he; exact ⟨a0, w0, ho _ _ h0⟩)
  | halt x w' => cases x <;> simp only [Oper.upon] at hh ⊢ <;> first | exact hh | exact hp _ _ _ hh

theorem yielded_pre {pre : List Oper} {last : Oper} {tmps : Array Value} {g : Nat} (hg : g < pre.length) : yielded (pre ++ [last]).toArray tmps g = yielded pre.toArray tmps g := by
  unfold yielded
  simp only [List.getElem?_toArray]
  rw [List.getElem?_append_left hg]

theorem wpOp_pre {pre : List Oper} {last : Oper} (hb : backward (pre ++ [last]) = true) {Q' : Exit → Act → World → Prop} (hp : ∀ c a w, Q' (.panic c) a w → Q (.panic c) a w) (ho : ∀ a w, Q' .outgrown a w → Q .outgrown a w)
    {i : Nat} (hi : i < pre.length) {K : Act → World → Prop} {a : Act} {w : World} (h : wpOp P pre.toArray Q' i K a w) : wpOp P (pre ++ [last]).toArray Q i K a w := by
  unfold wpOp at *
  have hget : (pre ++ [last]).toArray[i]? = pre.toArray[i]? := by simp [List.getElem?_append_left hi]
  rw [hget]
  have hsome : pre.toArray[i]? = some pre[i] := by simp [hi]
  rw [hsome] at h ⊢
  simp only at h ⊢
  have hgd := (backward_spec hb (i := i) (o := pre[i]) (by rw [List.getElem?_append_left hi]; simp [hi])).2
  have hw : Region.wanted pre[i] (yielded (pre ++ [last]).toArray a.tmps) = Region.wanted pre[i] (yielded pre.toArray a.tmps) := by
    unfold Region.wanted
    cases hgu : pre[i].guard with
    | none => rfl
    | some x =>
      obtain ⟨g, want⟩ := x
      simp only
      rw [yielded_pre (by have := hgd _ hgu; simp only at this; omega)]
  rw [hw]
  split
  · rename_i hwt
    rw [if_pos hwt] at h
    rcases h with h | ⟨h1, a0, w0, h2⟩
    · exact .inl (Oper.wp_post hp ho h)
    · exact .inr ⟨h1, a0, w0, ho _ _ h2⟩
  · rename_i hwt
    rw [if_neg hwt] at h
    exact h

theorem ready_pre {pre : List Oper} {last : Oper} {lp lf : Array Bool} (hb : backward (pre ++ [last]) = true) (h2 : ∀ i, i < pre.length → lf.getD i true = lp.getD i true) (hs : pre.length ≤ lp.size) (hs' : pre.length ≤ lf.size) {i : Nat} (hi : i < pre.length) :
    i ∈ Region.ready .any (pre ++ [last]).toArray lf ↔ i ∈ Region.ready .any pre.toArray lp := by
  have hf : ∀ j, j < pre.length → lf.getD j false = lp.getD j false := fun j hj => by
    have := h2 j hj
    simp only [Array.getD] at this ⊢
    rw [dif_pos (by omega), dif_pos (by omega)] at this ⊢
    exact this
  rw [mem_ready, mem_ready, h2 i hi]
  have hget : (pre ++ [last]).toArray[i]? = pre.toArray[i]? := by simp [List.getElem?_append_left hi]
  rw [hget]
  refine and_congr_right fun _ => ?_
  constructor
  · rintro ⟨o, ho, hall⟩
    have hbk := (backward_spec hb (i := i) (o := o) (by rw [List.getElem?_append_left hi]; simpa using ho)).1
    exact ⟨o, ho, fun e he hbi => by rw [← hf _ (by have := hbk e he hbi; omega)]; exact hall e he hbi⟩
  · rintro ⟨o, ho, hall⟩
    have hbk := (backward_spec hb (i := i) (o := o) (by rw [List.getElem?_append_left hi]; simpa using ho)).1
    exact ⟨o, ho, fun e he hbi => by rw [hf _ (by have := hbk e he hbi; omega)]; exact hall e he hbi⟩

/-- If nothing may come up, all are listed. -/
theorem all_listed {ops : List Oper} (hb : backward ops = true) {l : Array Bool} (h : Region.ready .any ops.toArray l = []) (hs : l.size = ops.length) : ∀ i, i < ops.length → l.getD i false = true := by
  intro i
  induction i using Nat.strongRecOn with
  | _ i ih =>
    intro hi
    by_cases hl : l.getD i false = true
    · exact hl
    · exfalso
      have hl' : l.getD i true = false := by
        simp only [Array.getD] at hl ⊢
        rw [dif_pos (by omega)] at hl ⊢
        simpa using hl
      have hm : i ∈ Region.ready .any ops.toArray l := by
        rw [mem_ready]
        refine ⟨hl', ops[i], by simp [hi], fun e he hbi => ?_⟩
        have := (backward_spec hb (i := i) (o := ops[i]) (by simp [hi])).1 e he hbi
        exact ih _ this (by omega)
      rw [h] at hm
      cases hm

theorem last_all {pre : List Oper} {last : Oper} (hl : comesLast (pre ++ [last]).toArray pre.length = true) {lf : Array Bool} (hs : Shutdown (pre ++ [last]).toArray (lf.setIfInBounds pre.length true)) (hz : lf.size = pre.length + 1) :
    ∀ i, i < pre.length → lf.getD i false = true := by
  intro i hi
  have h1 := List.all_eq_true.1 hl i (by simp; omega)
  have hne : (i == pre.length) = false := by simp; omega
  rw [hne, Bool.false_or] at h1
  have h2 := aheadRounds_listed hs _ (s := (List.range (pre ++ [last]).toArray.size).map fun i => i == pre.length) (fun j hj => by
    rw [List.getD_eq_getElem?_getD, List.getElem?_map] at hj
    cases hr : (List.range (pre ++ [last]).toArray.size)[j]? with
    | none => rw [hr] at hj; simp at hj
    | some j' =>
      rw [hr] at hj
      obtain ⟨hl', he⟩ := List.getElem?_eq_some_iff.1 hr
      simp only [List.getElem_range] at he
      subst he
      simp only [Option.map_some, Option.getD_some, beq_iff_eq] at hj
      subst hj
      simp [hz]) i h1
  rw [getD_set_ne false (by omega)] at h2
  exact h2

/-- What the region of all but the last leaves to the last. -/
def lastPost (P : Program) (ops : Array Oper) (k : Nat) (Q : Exit → Act → World → Prop) : Exit → Act → World → Prop
  | .normal, a, w => wpOp P ops Q k (Q .normal) a w
  | e, a, w => Q e a w

/-- THE RULE. -/
theorem wpAny_last {pre : List Oper} {last : Oper} (hl : comesLast (pre ++ [last]).toArray pre.length = true) (hb : backward (pre ++ [last]) = true) :
    ∀ (fuel : Nat) (lp lf : Array Bool) (a : Act) (w : World),
      lp.size = pre.length → lf.size = pre.length + 1 → (∀ i, i < pre.length → lf.getD i true = lp.getD i true) → lf.getD pre.length true = false → Shutdown (pre ++ [last]).toArray lf →
      wpAny P .any pre.toArray (lastPost P (pre ++ [last]).toArray pre.length Q) fuel lp a w →
      wpAny P .any (pre ++ [last]).toArray Q (fuel + 1) lf a w := by
  have hbp : backward pre = true := by
    refine List.all_eq_true.2 fun i hi => ?_
    simp only [List.mem_range] at hi
    have h1 := List.all_eq_true.1 hb i (by simp; omega)
    rw [List.getElem?_append_left hi] at h1
    exact h1
  have done : ∀ (f : Nat) (lp lf : Array Bool) (a : Act) (w : World), lp.size = pre.length → lf.size = pre.length + 1 → (∀ i, i < pre.length → lf.getD i true = lp.getD i true) → lf.getD pre.length true = false →
      Region.ready .any pre.toArray lp = [] → wpOp P (pre ++ [last]).toArray Q pre.length (Q .normal) a w → wpAny P .any (pre ++ [last]).toArray Q (f + 1) lf a w := by
    intro f lp lf a w h1 h2 h3 h4 h0 hq
    have hall := all_listed hbp h0 h1
    have hall' : ∀ i, i < pre.length → lf.getD i false = true := fun i hi => by
      have e1 := h3 i hi
      have e2 := hall i hi
      simp only [Array.getD] at e1 e2 ⊢
      rw [dif_pos (by omega), dif_pos (by omega)] at e1
      rw [dif_pos (by omega)] at e2 ⊢
      rw [e1, e2]
    have hn : pre.length ∈ Region.ready .any (pre ++ [last]).toArray lf := by
      rw [mem_ready]
      refine ⟨h4, last, by simp, fun e he hbi => ?_⟩
      exact hall' _ ((backward_spec hb (i := pre.length) (o := last) (by simp)).1 e he hbi)
    refine ⟨fun he => (by rw [he] at hn; cases hn), fun i hi => ?_⟩
    have hi' : i = pre.length := by
      obtain ⟨g0, o, ho, _⟩ := mem_ready.1 hi
      have hlt : i < pre.length + 1 := by have := getD_size g0; omega
      rcases Nat.lt_or_ge i pre.length with hx | hx
      · have := hall' i hx
        simp only [Array.getD] at this g0
        rw [dif_pos (by omega)] at this g0
        rw [this] at g0
        cases g0
      · omega
    subst hi'
    refine wpOp_mono (fun a' w' hq' => ?_) hq
    refine wpAny_done ?_ hq' _
    refine List.eq_nil_iff_forall_not_mem.2 fun j hj => ?_
    obtain ⟨g0, o, ho, _⟩ := mem_ready.1 hj
    have hlt : j < pre.length + 1 := by have := getD_size g0; simp only [Array.size_setIfInBounds] at this; omega
    by_cases hx : j = pre.length
    · subst hx
      simp [h2] at g0
    · rw [getD_set_ne true (fun e => hx e.symm)] at g0
      have := hall' j (by omega)
      simp only [Array.getD] at this g0
      rw [dif_pos (by omega)] at this g0
      rw [this] at g0
      cases g0
  intro fuel
  induction fuel with
  | zero =>
    intro lp lf a w h1 h2 h3 h4 h5 h6
    exact done 0 lp lf a w h1 h2 h3 h4 h6.1 h6.2
  | succ fuel ih =>
    intro lp lf a w h1 h2 h3 h4 h5 h6
    by_cases h0 : Region.ready .any pre.toArray lp = []
    · exact done _ lp lf a w h1 h2 h3 h4 h0 (h6.1 h0)
    · have hlt : ∀ i ∈ Region.ready .any (pre ++ [last]).toArray lf, i < pre.length := by
        intro i hi
        obtain ⟨g0, o, ho, _⟩ := mem_ready.1 hi
        have hsz : i < pre.length + 1 := by have := getD_size g0; omega
        rcases Nat.lt_or_ge i pre.length with hx | hx
        · exact hx
        · exfalso
          have hi' : i = pre.length := by omega
          subst hi'
          have hall := last_all hl (shutdown_step h5 hi) h2
          obtain ⟨j, hj⟩ := List.exists_mem_of_ne_nil _ h0
          obtain ⟨g1, o1, ho1, _⟩ := mem_ready.1 hj
          have hjl : j < pre.length := by have := getD_size g1; omega
          have e1 := h3 j hjl
          have e2 := hall j hjl
          rw [g1] at e1
          simp only [Array.getD] at e1 e2
          rw [dif_pos (by omega)] at e1 e2
          rw [e1] at e2
          cases e2
      refine ⟨fun he => ?_, fun i hi => ?_⟩
      · exfalso
        obtain ⟨j, hj⟩ := List.exists_mem_of_ne_nil _ h0
        obtain ⟨g1, o1, ho1, _⟩ := mem_ready.1 hj
        have hjl : j < pre.length := by have := getD_size g1; omega
        have := (ready_pre hb h3 (by omega) (by omega) hjl).2 hj
        rw [he] at this
        cases this
      · have hil := hlt i hi
        have hip := (ready_pre hb h3 (by omega) (by omega) hil).1 hi
        refine wpOp_pre hb (fun _ _ _ h => h) (fun _ _ h => h) hil (wpOp_mono (fun a' w' hk => ?_) (h6.2 i hip))
        refine ih _ _ a' w' (by simpa using h1) (by simpa using h2) (fun j hj => ?_) (by rw [getD_set_ne true (by omega)]; exact h4) (shutdown_step h5 hi) hk
        by_cases hij : i = j
        · subst hij
          simp [h1, h2, hil, show i < pre.length + 1 by omega]
        · rw [getD_set_ne true hij, getD_set_ne true hij]
          exact h3 j hj

/-- A region that draws, its last operation behind all others. -/
theorem wp_region_last {id : Nat} {pre : List Oper} {last : Oper} {a : Act} {w : World} (hm : P.follows .mixedOrders = true) (hl : comesLast (pre ++ [last]).toArray pre.length = true) (hb : backward (pre ++ [last]) = true)
    (h : wpAny P .any pre.toArray (lastPost P (pre ++ [last]).toArray pre.length Q) pre.toArray.size (Array.replicate pre.toArray.size false) a w.drew) :
    (Code.region id (pre ++ [last]).toArray true).wp P Q a w := by
  refine wp_region_any hm ?_
  have hsz : (pre ++ [last]).toArray.size = pre.length + 1 := by simp
  rw [hsz]
  refine wpAny_last hl hb pre.length (Array.replicate pre.toArray.size false) _ a _ (by simp) (by simp) (fun i hi => ?_) ?_ (fun j o ho hx => ?_) (by simpa using h)
  · simp [hi, show i < pre.length + 1 by omega]
  · simp
  · simp only [Array.getD_eq_getD_getElem?, Array.getElem?_replicate] at hx
    split at hx <;> simp at hx
end
end Go.Proofs.Ytnndkameadlkdaa
