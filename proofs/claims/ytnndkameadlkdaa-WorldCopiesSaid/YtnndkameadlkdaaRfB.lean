/- The reference's world in memory: rows of bytes, lies; the walks of note and told. -/
import Derived.Test.YtnndkameadlkdaaRfA
import Derived.Deep.MidRow
import Derived.Deep.WholeRow
namespace Go.Proofs.Ytnndkameadlkdaa
open Go.RowKit

/-- What reads so, outside the blocks N, that may turn. -/
def SrcN (N : Nat → Prop) (w : World) (size : Nat) (v : Value) (n : Nat) (xs : List Value) : Prop := Src w size v n xs ∧ (0 < xs.length → ∀ ad c, v = .slice (some ad) n c → ¬ N ad.block)
theorem SrcN.evo {N F : Nat → Prop} {w w' : World} {size n : Nat} {v : Value} {xs : List Value} (h : SrcN N w size v n xs) (he : Evo F w w') (hF : ∀ ad c, v = .slice (some ad) n c → ¬ F ad.block) : SrcN N w' size v n xs := ⟨h.1.evo he hF, h.2⟩
theorem SrcN.evo0 {N : Nat → Prop} {w w' : World} {size n : Nat} {v : Value} {xs : List Value} (h : SrcN N w size v n xs) (he : Evo (fun _ => False) w w') : SrcN N w' size v n xs := ⟨h.1.evo he (fun _ _ _ hf => hf), h.2⟩
theorem SrcN.drew {N : Nat → Prop} {w : World} {size n : Nat} {v : Value} {xs : List Value} (h : SrcN N w size v n xs) : SrcN N w.drew size v n xs := ⟨h.1.drew, h.2⟩
theorem SrcN.alloc {N : Nat → Prop} {w : World} {size n : Nat} {v : Value} {xs : List Value} (h : SrcN N w size v n xs) (o : Obj) : SrcN N (w.alloc o) size v n xs := ⟨h.1.alloc o, h.2⟩
theorem SrcN.nil (N : Nat → Prop) (w : World) : SrcN N w 1 (.slice none 0 0) 0 [] := ⟨⟨none, 0, rfl, Nat.le_refl _, rfl, fun j u hu => (by cases hu)⟩, fun h => absurd h (by simp)⟩
/-- The blocks N turn; what reads outside of them stays. -/
theorem SrcN.turn {N : Nat → Prop} {w w' : World} {size n : Nat} {v : Value} {xs : List Value} (h : SrcN N w size v n xs) (he : Evo N w w') : SrcN N w' size v n xs := by
  refine ⟨?_, h.2⟩
  obtain ⟨⟨A, c, e, hc, hl, hx⟩, hn⟩ := h
  refine ⟨A, c, e, hc, hl, fun j u hu => ?_⟩
  obtain ⟨ad, e1, e2⟩ := hx j u hu
  subst e1
  refine ⟨ad, rfl, (he.cell (World.block_lt_of_cell? _ _ e2) ?_).trans e2⟩
  rw [add_block]
  exact hn (Nat.lt_of_le_of_lt (Nat.zero_le j) (List.getElem?_eq_some_iff.1 hu).1) ad c e
/-- Other blocks may turn from now on. -/
theorem SrcN.other {N N' : Nat → Prop} {w : World} {size n : Nat} {v : Value} {xs : List Value} (h : SrcN N w size v n xs) (hN : ∀ k, N' k → N k ∨ w.heap.size ≤ k) : SrcN N' w size v n xs := by
  refine ⟨h.1, fun h0 ad c e hf => ?_⟩
  rcases hN _ hf with h1 | h1
  · exact h.2 h0 ad c e h1
  · obtain ⟨ad', c', e', hlt⟩ := h.1.block h0
    rw [e] at e'
    cases e'
    omega

/-- Traces, outside the blocks N. -/
def TrN (N : Nat → Prop) (w : World) (v : Value) (ts : List Tr) : Prop :=
  ∃ us, us.length = ts.length ∧ SrcN N w 4 v ts.length (trCells ts us) ∧ ∀ (i : Nat) (x : Tr) (u : Value), ts[i]? = some x → us[i]? = some u → SrcN N w 1 u x.bytes.length (bys x.bytes)
theorem TrN.src {N : Nat → Prop} {w : World} {v : Value} {ts : List Tr} (h : TrN N w v ts) : TrSrc w v ts := by
  obtain ⟨us, h1, h2, h3⟩ := h
  exact ⟨us, h1, h2.1, fun i x u hx hu => (h3 i x u hx hu).1⟩
theorem TrN.evo0 {N : Nat → Prop} {w w' : World} {v : Value} {ts : List Tr} (h : TrN N w v ts) (he : Evo (fun _ => False) w w') : TrN N w' v ts := by
  obtain ⟨us, h1, h2, h3⟩ := h
  exact ⟨us, h1, h2.evo0 he, fun i x u hx hu => (h3 i x u hx hu).evo0 he⟩
theorem TrN.turn {N : Nat → Prop} {w w' : World} {v : Value} {ts : List Tr} (h : TrN N w v ts) (he : Evo N w w') : TrN N w' v ts := by
  obtain ⟨us, h1, h2, h3⟩ := h
  exact ⟨us, h1, h2.turn he, fun i x u hx hu => (h3 i x u hx hu).turn he⟩
theorem TrN.other {N N' : Nat → Prop} {w : World} {v : Value} {ts : List Tr} (h : TrN N w v ts) (hN : ∀ k, N' k → N k ∨ w.heap.size ≤ k) : TrN N' w v ts := by
  obtain ⟨us, h1, h2, h3⟩ := h
  exact ⟨us, h1, h2.other hN, fun i x u hx hu => (h3 i x u hx hu).other hN⟩

/-- A row of rows of bytes. -/
def RowOf (N : Nat → Prop) (w : World) (v : Value) (ls : List (List Int)) : Prop :=
  ∃ vs : List Value, vs.length = ls.length ∧ SrcN N w 1 v ls.length vs ∧ ∀ (i : Nat) (x : List Int) (u : Value), ls[i]? = some x → vs[i]? = some u → SrcN N w 1 u x.length (bys x)
theorem RowOf.evo0 {N : Nat → Prop} {w w' : World} {v : Value} {ls : List (List Int)} (h : RowOf N w v ls) (he : Evo (fun _ => False) w w') : RowOf N w' v ls := by
  obtain ⟨vs, h1, h2, h3⟩ := h
  exact ⟨vs, h1, h2.evo0 he, fun i x u hx hu => (h3 i x u hx hu).evo0 he⟩
theorem RowOf.form {N : Nat → Prop} {w : World} {v : Value} {ls : List (List Int)} (h : RowOf N w v ls) : ∃ A c, v = .slice A ls.length c ∧ ls.length ≤ c := by
  obtain ⟨vs, h1, ⟨⟨A, c, e, hc, _⟩, _⟩, h3⟩ := h
  exact ⟨A, c, e, hc⟩
theorem RowOf.at {N : Nat → Prop} {w : World} {A : Option Addr} {n c : Nat} {ls : List (List Int)} (h : RowOf N w (.slice A n c) ls) {i : Nat} {x : List Int} (hx : ls[i]? = some x) :
    ∃ b o B d, A = some ⟨b, o, none⟩ ∧ i < n ∧ n ≤ c ∧ w.cell? ⟨b, o + i, none⟩ = some (.slice B x.length d) ∧ SrcN N w 1 (.slice B x.length d) x.length (bys x) := by
  obtain ⟨vs, h1, ⟨⟨A', c', e, hnc, hl, hc⟩, _⟩, h3⟩ := h
  cases e
  have hi : i < ls.length := (List.getElem?_eq_some_iff.1 hx).1
  have hiv : i < vs.length := by omega
  obtain ⟨ad, e, h4⟩ := hc i (vs[i]) (List.getElem?_eq_getElem hiv)
  obtain ⟨b, o, sp⟩ := ad
  have h5 := h3 i x vs[i] hx (List.getElem?_eq_getElem hiv)
  have h0 : ((⟨b, o, sp⟩ : Addr).add i).spot = none := World.cell?_spot h4
  have hsp : sp = none := by
    unfold Addr.add at h0
    split at h0
    · exact h0
    · rename_i hi0
      obtain ⟨ad', e', h6⟩ := hc 0 (vs[0]'(by omega)) (List.getElem?_eq_getElem (by omega))
      rw [e] at e'
      cases e'
      have : ((⟨b, o, sp⟩ : Addr).add 0).spot = none := World.cell?_spot h6
      simpa [Addr.add] using this
  subst hsp
  rw [Addr.add_mid] at h4
  obtain ⟨B, d, e5, _⟩ := id h5.1
  rw [e5] at h4 h5
  exact ⟨b, o, B, d, e, hi, hnc, h4, h5⟩

theorem RowOf.turn {N : Nat → Prop} {w w' : World} {v : Value} {ls : List (List Int)} (h : RowOf N w v ls) (he : Evo N w w') : RowOf N w' v ls := by
  obtain ⟨vs, h1, h2, h3⟩ := h
  exact ⟨vs, h1, h2.turn he, fun i x u hx hu => (h3 i x u hx hu).turn he⟩
theorem RowOf.other {N N' : Nat → Prop} {w : World} {v : Value} {ls : List (List Int)} (h : RowOf N w v ls) (hN : ∀ k, N' k → N k ∨ w.heap.size ≤ k) : RowOf N' w v ls := by
  obtain ⟨vs, h1, h2, h3⟩ := h
  exact ⟨vs, h1, h2.other hN, fun i x u hx hu => (h3 i x u hx hu).other hN⟩

/-- A row of lies. -/
def lieCells (ls : List (Int × List Int)) (us : List Value) : List Value := (ls.zip us).flatMap fun (x, u) => [.int .i64 x.1, u]
def LieOf (N : Nat → Prop) (w : World) (v : Value) (ls : List (Int × List Int)) : Prop :=
  ∃ us : List Value, us.length = ls.length ∧ SrcN N w 2 v ls.length (lieCells ls us) ∧ ∀ (i : Nat) (x : Int × List Int) (u : Value), ls[i]? = some x → us[i]? = some u → SrcN N w 1 u x.2.length (bys x.2)
theorem LieOf.evo0 {N : Nat → Prop} {w w' : World} {v : Value} {ls : List (Int × List Int)} (h : LieOf N w v ls) (he : Evo (fun _ => False) w w') : LieOf N w' v ls := by
  obtain ⟨vs, h1, h2, h3⟩ := h
  exact ⟨vs, h1, h2.evo0 he, fun i x u hx hu => (h3 i x u hx hu).evo0 he⟩
theorem LieOf.form {N : Nat → Prop} {w : World} {v : Value} {ls : List (Int × List Int)} (h : LieOf N w v ls) : ∃ A c, v = .slice A ls.length c ∧ ls.length ≤ c := by
  obtain ⟨vs, h1, ⟨⟨A, c, e, hc, _⟩, _⟩, h3⟩ := h
  exact ⟨A, c, e, hc⟩
theorem lieCells_at (ls : List (Int × List Int)) (us : List Value) (h : us.length = ls.length) (i : Nat) (hi : i < ls.length) :
    (lieCells ls us)[i * 2]? = some (.int .i64 (ls[i]).1) ∧ (lieCells ls us)[i * 2 + 1]? = some (us[i]'(by omega)) := by
  induction ls generalizing us i with
  | nil => simp at hi
  | cons x xs ih =>
    cases us with
    | nil => simp at h
    | cons u us =>
      have e : lieCells (x :: xs) (u :: us) = [.int .i64 x.1, u] ++ lieCells xs us := by simp [lieCells]
      rw [e]
      cases i with
      | zero => simp
      | succ i =>
        have := ih us (by simpa using h) i (by simpa using hi)
        have e1 : (i + 1) * 2 = i * 2 + 1 + 1 := by omega
        simpa [e1] using this
theorem lieCells_len (ls : List (Int × List Int)) (us : List Value) (h : us.length = ls.length) : (lieCells ls us).length = ls.length * 2 := by
  induction ls generalizing us with
  | nil => simp [lieCells]
  | cons x xs ih =>
    cases us with
    | nil => simp at h
    | cons u us =>
      have e : lieCells (x :: xs) (u :: us) = [.int .i64 x.1, u] ++ lieCells xs us := by simp [lieCells]
      rw [e, List.length_append, ih us (by simpa using h)]
      simp only [List.length_cons, List.length_nil]
      omega
theorem LieOf.at {N : Nat → Prop} {w : World} {A : Option Addr} {n c : Nat} {ls : List (Int × List Int)} (h : LieOf N w (.slice A n c) ls) {i : Nat} {x : Int × List Int} (hx : ls[i]? = some x) :
    ∃ b o B d, A = some ⟨b, o, none⟩ ∧ i < n ∧ n ≤ c ∧ w.cell? ⟨b, o + i * 2, none⟩ = some (.int .i64 x.1) ∧ w.cell? ⟨b, o + i * 2 + 1, none⟩ = some (.slice B x.2.length d) ∧ SrcN N w 1 (.slice B x.2.length d) x.2.length (bys x.2) := by
  obtain ⟨us, h1, ⟨⟨A', c', e, hnc, hl, hc⟩, _⟩, h3⟩ := h
  cases e
  have hi : i < ls.length := (List.getElem?_eq_some_iff.1 hx).1
  have ex : ls[i] = x := (List.getElem?_eq_some_iff.1 hx).2
  have hiv : i < us.length := by omega
  obtain ⟨g1, g2⟩ := lieCells_at ls us h1 i hi
  obtain ⟨g3, _⟩ := lieCells_at ls us h1 0 (by omega)
  obtain ⟨ad, e, h4⟩ := hc _ _ g1
  obtain ⟨ad1, e1, h5⟩ := hc _ _ g2
  obtain ⟨ad2, e2, h6⟩ := hc _ _ g3
  subst e
  cases e1
  cases e2
  obtain ⟨b, o, sp⟩ := ad
  have hsp : sp = none := by
    have : ((⟨b, o, sp⟩ : Addr).add 0).spot = none := World.cell?_spot (by simpa using h6)
    simpa [Addr.add] using this
  subst hsp
  rw [Addr.add_mid] at h4 h5
  rw [ex] at h4
  have h7 := h3 i x us[i] hx (List.getElem?_eq_getElem hiv)
  obtain ⟨B, d, e5, _⟩ := id h7.1
  rw [e5] at h5 h7
  exact ⟨b, o, B, d, rfl, hi, hnc, h4, by rw [← Nat.add_assoc] at h5; exact h5, h7⟩

theorem LieOf.turn {N : Nat → Prop} {w w' : World} {v : Value} {ls : List (Int × List Int)} (h : LieOf N w v ls) (he : Evo N w w') : LieOf N w' v ls := by
  obtain ⟨vs, h1, h2, h3⟩ := h
  exact ⟨vs, h1, h2.turn he, fun i x u hx hu => (h3 i x u hx hu).turn he⟩
theorem LieOf.other {N N' : Nat → Prop} {w : World} {v : Value} {ls : List (Int × List Int)} (h : LieOf N w v ls) (hN : ∀ k, N' k → N k ∨ w.heap.size ≤ k) : LieOf N' w v ls := by
  obtain ⟨vs, h1, h2, h3⟩ := h
  exact ⟨vs, h1, h2.other hN, fun i x u hx hu => (h3 i x u hx hu).other hN⟩

/-- The last lie of a read. -/
def lastLie (ls : List (Int × List Int)) (m : Int) : Option (List Int) := ls.foldl (fun r x => if x.1 = m then some x.2 else r) none
theorem lastLie_snoc (ls : List (Int × List Int)) (n : Int) (l : List Int) (m : Int) : lastLie (ls ++ [(n, l)]) m = if m = n then some l else lastLie ls m := by
  simp only [lastLie, List.foldl_append, List.foldl_cons, List.foldl_nil]
  by_cases h : n = m
  · simp [h]
  · have : ¬ m = n := fun e => h e.symm
    simp [h, this]

/-- A block of cells of one kind. -/
def Kind (w : World) (e : TypeId) (b : Nat) : Prop := ∃ C f, w.heap[b]? = some (.cells C e f)
theorem Kind.evo {w w' : World} {e : TypeId} {b : Nat} {F : Nat → Prop} (h : Kind w e b) (he : Evo F w w') (hn : ¬ F b) : Kind w' e b := by
  obtain ⟨C, f, h⟩ := h
  exact ⟨C, f, (he.block b (heap_lt h) hn).trans h⟩
theorem Kind.ne {w : World} {e e' : TypeId} {b b' : Nat} (h : Kind w e b) (h' : Kind w e' b') (hn : e ≠ e') : b ≠ b' := by
  rintro rfl
  obtain ⟨C, f, h⟩ := h
  obtain ⟨C', f', h'⟩ := h'
  rw [h] at h'
  cases h'
  exact hn rfl

/-- .. that stays while N turns. -/
def KindN (N : Nat → Prop) (w : World) (e : TypeId) (b : Nat) : Prop := Kind w e b ∧ ¬ N b
theorem KindN.evo {N F : Nat → Prop} {w w' : World} {e : TypeId} {b : Nat} (h : KindN N w e b) (he : Evo F w w') (hn : ¬ F b) : KindN N w' e b := ⟨h.1.evo he hn, h.2⟩
theorem KindN.ne {N : Nat → Prop} {w : World} {e e' : TypeId} {b b' : Nat} (h : KindN N w e b) (h' : Kind w e' b') (hn : e ≠ e') : b ≠ b' := h.1.ne h' hn

/-! a world's cells, as one -/
theorem size56 : (Try.prog.info? 56).map (·.size) = some 10 := by kernel_rfl
theorem load56 (w : World) (g : Nat) (cs : Array Value) (hg : w.heap[g]? = some (.cells cs 56 (0, 0))) (hs : cs.size = 10) : (Instr.loadAt 56 (.pointer (some ⟨g, 0, none⟩))).run Try.prog w = .ok (.agg cs) w := by
  simp only [Instr.loadAt, Instr.sureAddr, Sem.run_bind, Sem.run_pure, Result.andThen]
  exact run_loadVar_row w g 56 56 cs (0, 0) _ hg Try.underlying56 rfl (by rw [size56, hs])
theorem loadVar56 (w : World) (g : Nat) (cs : Array Value) (hg : w.heap[g]? = some (.cells cs 56 (0, 0))) (hs : cs.size = 10) : (loadVar 56 ⟨g, 0, none⟩).run Try.prog w = .ok (.agg cs) w :=
  run_loadVar_row w g 56 56 cs (0, 0) _ hg Try.underlying56 rfl (by rw [size56, hs])
theorem store56 (w : World) (g : Nat) (cs c' : Array Value) (hg : w.heap[g]? = some (.cells cs 56 (0, 0))) (hs : cs.size = 10) (hs' : c'.size = 10) (h1 : c'.all (·.oneCell') = true) :
    ∃ w', (Instr.storeAt 56 (.pointer (some ⟨g, 0, none⟩)) (.agg c')).run Try.prog w = .ok () w' ∧ w'.heap[g]? = some (.cells c' 56 (0, 0)) ∧ Evo (fun k => k = g) w w' := by
  refine ⟨w.setRow g c', ?_, ?_, ?_⟩
  · simp only [Instr.storeAt, Instr.sureAddr, Sem.run_bind, Sem.run_pure, Result.andThen]
    exact run_storeVar_row w g 56 56 cs c' hg (by rw [size56, hs']) (by rw [hs, hs']) h1
  · simp [World.setRow, Array.getElem?_modify, hg]
  · refine ⟨rfl, rfl, rfl, by simp [World.setRow], fun k _ hn => ?_⟩
    have hn : ¬ k = g := hn
    simp only [World.setRow, Array.getElem?_modify]
    rw [if_neg (fun e => hn e.symm)]

end Go.Proofs.Ytnndkameadlkdaa
