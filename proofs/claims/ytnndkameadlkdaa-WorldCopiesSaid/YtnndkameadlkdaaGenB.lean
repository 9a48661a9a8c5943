/- Words on the growth of a heap, byte slices and rows, over any program. -/
import Derived.Test.YtnndkameadlkdaaGenA
namespace Go.Proofs.Ytnndkameadlkdaa
open Go.RowKit

/-! ### what has become of a world -/

/-- w' is w but for the blocks of F, and for new ones. -/
structure Evo (F : Nat → Prop) (w w' : World) : Prop where
  os : w'.os = w.os
  tape : w'.tape = w.tape
  output : w'.output = w.output
  size : w.heap.size ≤ w'.heap.size
  block : ∀ k, k < w.heap.size → ¬ F k → w'.heap[k]? = w.heap[k]?

theorem Evo.refl (F : Nat → Prop) (w : World) : Evo F w w := ⟨rfl, rfl, rfl, Nat.le_refl _, fun _ _ _ => rfl⟩
theorem Evo.trans {F F' : Nat → Prop} {a b c : World} (h : Evo F a b) (k : Evo F' b c) (hF : ∀ x, F' x → F x ∨ a.heap.size ≤ x) : Evo F a c :=
  ⟨k.os.trans h.os, k.tape.trans h.tape, k.output.trans h.output, Nat.le_trans h.size k.size, fun x hx hn =>
    (k.block x (Nat.lt_of_lt_of_le hx h.size) (fun hf => by rcases hF x hf with h1 | h1; exact hn h1; omega)).trans (h.block x hx hn)⟩
theorem Evo.mono {F F' : Nat → Prop} {w w' : World} (h : Evo F w w') (hF : ∀ x, F x → F' x) : Evo F' w w' :=
  ⟨h.os, h.tape, h.output, h.size, fun k hk hn => h.block k hk (fun hf => hn (hF _ hf))⟩
theorem Evo.drew {F : Nat → Prop} {a w : World} (h : Evo F a w) : Evo F a w.drew := ⟨h.os, h.tape, h.output, h.size, h.block⟩
theorem Evo.drewN {F : Nat → Prop} {a w : World} (h : Evo F a w) (n : Nat) : Evo F a (w.drewN n) := ⟨h.os, h.tape, h.output, h.size, h.block⟩
theorem Evo.alloc {F : Nat → Prop} {a w : World} (h : Evo F a w) (o : Obj) : Evo F a (w.alloc o) :=
  ⟨h.os, h.tape, h.output, Nat.le_trans h.size (by simp), fun k hk hn => (Below.heap_alloc w o k (Nat.lt_of_lt_of_le hk h.size)).trans (h.block k hk hn)⟩
theorem Evo.setCell {F : Nat → Prop} {a w : World} (h : Evo F a w) {p : Addr} (hp : F p.block ∨ a.heap.size ≤ p.block) (u : Value) : Evo F a (w.setCell p u) :=
  ⟨h.os, h.tape, h.output, by simpa [World.setCell] using h.size, fun k hk hn => (Below.heap_setCell w p u k (by
    rintro rfl
    rcases hp with hp | hp
    · exact hn hp
    · omega)).trans (h.block k hk hn)⟩
theorem Evo.putObj {F : Nat → Prop} {a w : World} (h : Evo F a w) {b : Nat} (hp : F b ∨ a.heap.size ≤ b) (o : Obj) : Evo F a (putObj w b o) :=
  ⟨h.os, h.tape, h.output, by rw [putObj_size]; exact h.size, fun k hk hn => by
    rw [putObj_heap, if_neg]
    · exact h.block k hk hn
    · rintro ⟨rfl, _⟩
      rcases hp with hp | hp
      · exact hn hp
      · omega⟩
theorem Evo.grown {F : Nat → Prop} {a w w' : World} {row : Option Nat} (h : Evo F a w) (hg : w.grownBy w' row) (hr : ∀ g, row = some g → F g ∨ a.heap.size ≤ g) : Evo F a w' :=
  ⟨hg.os.trans h.os, hg.tape.trans h.tape, hg.output.trans h.output, Nat.le_trans h.size hg.size, fun k hk hn =>
    (hg.block k (Nat.lt_of_lt_of_le hk h.size) (fun e => by rcases hr k e.symm with h1 | h1; exact hn h1; omega)).trans (h.block k hk hn)⟩
theorem Evo.below {F : Nat → Prop} {w w' : World} (h : Evo F w w') {B : Nat} (hB : B ≤ w.heap.size) (hF : ∀ k, F k → B ≤ k) : Below B w w' :=
  ⟨h.os, h.tape, h.output, h.size, fun k hk => h.block k (by omega) (fun hf => by have := hF k hf; omega)⟩
theorem Evo.cell {F : Nat → Prop} {w w' : World} (h : Evo F w w') {p : Addr} (hp : p.block < w.heap.size) (hn : ¬ F p.block) : w'.cell? p = w.cell? p :=
  World.cell?_of_block (h.block p.block hp hn)

/-! ### blocks of one element type -/

/-- Every row of cells of element type e reads as it did. -/
def SameKind (e : TypeId) (w w' : World) : Prop := ∀ (k : Nat) (c : Array Value) (f : Nat × Nat), w.heap[k]? = some (.cells c e f) → w'.heap[k]? = some (.cells c e f)

theorem SameKind.refl (e : TypeId) (w : World) : SameKind e w w := fun _ _ _ h => h
theorem SameKind.trans {e : TypeId} {a b c : World} (h : SameKind e a b) (k : SameKind e b c) : SameKind e a c := fun x y z hx => k x y z (h x y z hx)
theorem SameKind.drew {e : TypeId} {a w : World} (h : SameKind e a w) : SameKind e a w.drew := h
theorem SameKind.drewN {e : TypeId} {a w : World} (h : SameKind e a w) (n : Nat) : SameKind e a (w.drewN n) := h
theorem heap_lt {w : World} {k : Nat} {o : Obj} (h : w.heap[k]? = some o) : k < w.heap.size := (Array.getElem?_eq_some_iff.1 h).1
theorem SameKind.alloc {e : TypeId} {a w : World} (h : SameKind e a w) (o : Obj) : SameKind e a (w.alloc o) := fun k c f hk => by
  have := h k c f hk
  exact (Below.heap_alloc w o k (heap_lt this)).trans this
theorem SameKind.setCell {e e' : TypeId} {a w : World} (h : SameKind e a w) {p : Addr} {c' : Array Value} {f' : Nat × Nat} (hb : w.heap[p.block]? = some (.cells c' e' f')) (hne : e ≠ e') (u : Value) : SameKind e a (w.setCell p u) := fun k c f hk => by
  have h1 := h k c f hk
  refine (Below.heap_setCell w p u k ?_).trans h1
  rintro rfl
  rw [hb] at h1
  injection h1 with h1
  injection h1 with _ h2
  exact hne h2.symm
theorem SameKind.putObj {e : TypeId} {a w : World} (h : SameKind e a w) {b : Nat} {es : Array MapEntry} {cl : Nat} (hb : w.heap[b]? = some (.map es cl)) (o : Obj) : SameKind e a (putObj w b o) := fun k c f hk => by
  have h1 := h k c f hk
  rw [putObj_heap, if_neg]
  · exact h1
  · rintro ⟨rfl, _⟩
    rw [hb] at h1
    injection h1 with h1
    cases h1
/-- A step that turns one row, of another element type, and makes new blocks. -/
theorem SameKind.grown {e e' : TypeId} {a w w' : World} (h : SameKind e a w) {row : Option Nat} (hg : w.grownBy w' row) (hr : ∀ g, row = some g → ∃ c f, w.heap[g]? = some (.cells c e' f)) (hne : e ≠ e') : SameKind e a w' := fun k c f hk => by
  have h1 := h k c f hk
  refine (hg.block k (heap_lt h1) ?_).trans h1
  rintro rfl
  obtain ⟨c', f', h2⟩ := hr k rfl
  rw [h2] at h1
  injection h1 with h1
  injection h1 with _ h3
  exact hne h3.symm

/-- New blocks alone. -/
theorem SameKind.fresh {e : TypeId} {a w w' : World} (h : SameKind e a w) (hg : w.grownBy w' none) : SameKind e a w' := fun k c f hk => by
  have h1 := h k c f hk
  exact (hg.block k (heap_lt h1) (by simp)).trans h1

theorem IsMap.of_grown {w w' : World} {b : Nat} {K : Value → Prop} {F : Value → Option Value} (h : IsMap w b K F) {row : Option Nat} (hg : w.grownBy w' row) (hr : ∀ g, row = some g → ∃ c e f, w.heap[g]? = some (.cells c e f)) : IsMap w' b K F := by
  refine h.same (hg.block b h.lt ?_)
  rintro rfl
  obtain ⟨c, e, f, h2⟩ := hr b rfl
  obtain ⟨es, cl, h3, _⟩ := h
  rw [h2] at h3
  injection h3 with h3
  cases h3
theorem IsMap.setCell {w : World} {b : Nat} {K : Value → Prop} {F : Value → Option Value} (h : IsMap w b K F) (p : Addr) (u : Value) : IsMap (w.setCell p u) b K F := by
  obtain ⟨es, cl, h3, r⟩ := h
  refine ⟨es, cl, ?_, r⟩
  simp only [World.setCell, Array.getElem?_modify, h3]
  split <;> rfl
theorem IsMap.alloc {w : World} {b : Nat} {K : Value → Prop} {F : Value → Option Value} (h : IsMap w b K F) (o : Obj) : IsMap (w.alloc o) b K F := h.same (Below.heap_alloc w o b h.lt)
theorem IsMap.drew {w : World} {b : Nat} {K : Value → Prop} {F : Value → Option Value} (h : IsMap w b K F) : IsMap w.drew b K F := h
theorem IsMap.putObj {w : World} {b b' : Nat} {K : Value → Prop} {F : Value → Option Value} (h : IsMap w b K F) (hne : b ≠ b') (o : Obj) : IsMap (putObj w b' o) b K F := by
  refine h.same ?_
  rw [putObj_heap, if_neg]
  rintro ⟨rfl, _⟩
  exact hne rfl

/-! ### bytes -/

def bys (l : List Int) : List Value := l.map (Value.int .u8)
theorem bys_length (l : List Int) : (bys l).length = l.length := by simp [bys]
theorem bys_append (l m : List Int) : bys (l ++ m) = bys l ++ bys m := by simp [bys]
theorem bys_get (l : List Int) (j : Nat) : (bys l)[j]? = (l[j]?).map (Value.int .u8) := by simp [bys]
theorem bys_one (l : List Int) : ∀ u ∈ bys l, u.oneCell' = true := by
  intro u hu
  obtain ⟨n, _, rfl⟩ := List.mem_map.1 hu
  rfl

/-- The slice value v reads as the cells xs (elements of 'size' cells). -/
def Src (w : World) (size : Nat) (v : Value) (n : Nat) (xs : List Value) : Prop :=
  ∃ A c, v = .slice A n c ∧ n ≤ c ∧ xs.length = n * size ∧ ∀ j u, xs[j]? = some u → ∃ ad, A = some ad ∧ w.cell? (ad.add j) = some u

theorem add_block (a : Addr) (n : Nat) : (a.add n).block = a.block := by unfold Addr.add; split <;> rfl
theorem add_add' (a : Addr) (i j : Nat) : (a.add i).add j = a.add (i + j) := by
  unfold Addr.add
  by_cases hi : i = 0 <;> by_cases hj : j = 0 <;> simp [hi, hj, Nat.add_assoc]

section
variable {w w' : World} {size n : Nat} {v : Value} {xs : List Value}
theorem Src.of_own {base : Nat} {e : TypeId} (h : w.ownsRow base e size v n xs) : Src w size v n xs := by
  rcases h.2 with ⟨rfl, rfl⟩ | ⟨g, cap, cur, rfl, hb, hg, hnc, hm, hs, ht⟩
  · have : xs = [] := List.eq_nil_of_length_eq_zero (by simpa using h.1)
    subst this
    exact ⟨none, 0, rfl, Nat.le_refl _, by simp, by simp⟩
  · refine ⟨_, cap, rfl, hnc, h.1, fun j u hu => ⟨_, rfl, h.cells (g := g) rfl j u hu⟩⟩
theorem Src.len (h : Src w size v n xs) : xs.length = n * size := by obtain ⟨_, _, _, _, h, _⟩ := h; exact h
/-- The source as it stands behind steps that turn no block of its own. -/
theorem Src.kept (h : Src w size v n xs) (hk : ∀ ad, v = .slice (some ad) n (match v with | .slice _ _ c => c | _ => 0) → w'.heap[ad.block]? = w.heap[ad.block]?) : Src w' size v n xs := by
  obtain ⟨A, c, rfl, hnc, hl, hc⟩ := h
  refine ⟨A, c, rfl, hnc, hl, fun j u hu => ?_⟩
  obtain ⟨ad, rfl, h1⟩ := hc j u hu
  refine ⟨ad, rfl, ?_⟩
  rw [World.cell?_of_block (w := w) (by rw [add_block]; exact hk ad rfl)]
  exact h1
theorem Src.block (h : Src w size v n xs) (hn : 0 < xs.length) : ∃ ad c, v = .slice (some ad) n c ∧ ad.block < w.heap.size := by
  obtain ⟨A, c, rfl, hnc, hl, hc⟩ := h
  obtain ⟨ad, rfl, h1⟩ := hc 0 xs[0] (List.getElem?_eq_getElem hn)
  exact ⟨ad, c, rfl, by have := World.block_lt_of_cell? w _ h1; rwa [add_block] at this⟩
theorem Src.evo {F : Nat → Prop} (h : Src w size v n xs) (he : Evo F w w') (hF : ∀ ad c, v = .slice (some ad) n c → ¬ F ad.block) : Src w' size v n xs := by
  obtain ⟨A, c, rfl, hnc, hl, hc⟩ := h
  refine ⟨A, c, rfl, hnc, hl, fun j u hu => ?_⟩
  obtain ⟨ad, rfl, h1⟩ := hc j u hu
  refine ⟨ad, rfl, ?_⟩
  have hlt := World.block_lt_of_cell? w _ h1
  rw [he.cell hlt (by rw [add_block]; exact hF ad c rfl)]
  exact h1
theorem Src.drew (h : Src w size v n xs) : Src w.drew size v n xs := h
theorem Src.alloc (h : Src w size v n xs) (o : Obj) : Src (w.alloc o) size v n xs := by
  obtain ⟨A, c, rfl, hnc, hl, hc⟩ := h
  refine ⟨A, c, rfl, hnc, hl, fun j u hu => ?_⟩
  obtain ⟨ad, rfl, h1⟩ := hc j u hu
  exact ⟨ad, rfl, (World.cell?_alloc_lt w o _ (World.block_lt_of_cell? w _ h1)).trans h1⟩
theorem Src.take {k : Nat} (h : Src w 1 v n xs) (hk : k ≤ n) {A : Option Addr} {c : Nat} (hv : v = .slice A n c) : Src w 1 (.slice A k c) k (xs.take k) := by
  obtain ⟨A', c', he, hnc, hl, hc⟩ := h
  rw [hv] at he
  cases he
  refine ⟨A, c, rfl, by omega, by simp [hl]; omega, fun j u hu => ?_⟩
  rw [List.getElem?_take] at hu
  split at hu
  · exact hc j u hu
  · cases hu
end

/-- A row of the call's own that is kept by whatever keeps the rows of its element type. -/
theorem ownsRow_same {w w' : World} {base : Nat} {e : TypeId} {size n : Nat} {v : Value} {xs : List Value} (h : w.ownsRow base e size v n xs) (hs : SameKind e w w') : w'.ownsRow base e size v n xs := by
  refine ⟨h.1, ?_⟩
  rcases h.2 with h2 | ⟨g, cap, cur, rfl, hb, hg, r⟩
  · exact Or.inl h2
  · exact Or.inr ⟨g, cap, cur, rfl, hb, hs _ _ _ hg, r⟩
theorem ownsRow_kind {w : World} {base : Nat} {e : TypeId} {size n : Nat} {v : Value} {xs : List Value} (h : w.ownsRow base e size v n xs) : ∀ g, v.ownBlock = some g → ∃ c f, w.heap[g]? = some (.cells c e f) := by
  intro g hg
  rcases h.2 with ⟨rfl, _⟩ | ⟨g', cap, cur, rfl, hb, hgg, r⟩
  · simp [Value.ownBlock] at hg
  · simp [Value.ownBlock] at hg
    subst hg
    exact ⟨_, _, hgg⟩
theorem ownsRow_slice {w : World} {base : Nat} {e : TypeId} {size n : Nat} {v : Value} {xs : List Value} (h : w.ownsRow base e size v n xs) : ∃ A c, v = .slice A n c ∧ n ≤ c := by
  rcases h.2 with ⟨rfl, rfl⟩ | ⟨g', cap, cur, rfl, hb, hgg, hnc, r⟩
  · exact ⟨none, 0, rfl, Nat.le_refl _⟩
  · exact ⟨_, _, rfl, hnc⟩
/-- A row that was just laid, as a source. -/
theorem Src.laid (w : World) (e : TypeId) (cs : List Value) (n size : Nat) (h : cs.length = n * size) : Src (w.alloc (.cells cs.toArray e)) size (.slice (some ⟨w.heap.size, 0, none⟩) n n) n cs := by
  refine ⟨_, _, rfl, Nat.le_refl _, h, fun j u hu => ⟨_, rfl, ?_⟩⟩
  have : ((⟨w.heap.size, 0, none⟩ : Addr).add j) = ⟨w.heap.size, j, none⟩ := by unfold Addr.add; split <;> simp_all
  rw [this, cell_of_row _ _ j cs.toArray e (0, 0) (heap_alloc_new w _)]
  simpa using hu
theorem ownsRow_base {w : World} {base base' : Nat} {e : TypeId} {size n : Nat} {v : Value} {xs : List Value} (h : w.ownsRow base e size v n xs) (hb : ∀ g, v.ownBlock = some g → base' ≤ g) : w.ownsRow base' e size v n xs := by
  refine ⟨h.1, ?_⟩
  rcases h.2 with h2 | ⟨g', cap, cur, rfl, hb', r⟩
  · exact Or.inl h2
  · exact Or.inr ⟨g', cap, cur, rfl, hb g' rfl, r⟩

/-- 'v' is nil, or owns the bytes l in a row of F. -/
def Own (w : World) (F : Nat → Prop) (e : TypeId) (v : Value) (l : List Int) : Prop := w.ownsRow 0 e 1 v l.length (bys l) ∧ ∀ g, v.ownBlock = some g → F g
theorem Own.same {w w' : World} {F F' : Nat → Prop} {e : TypeId} {v : Value} {l : List Int} (h : Own w F e v l) (hs : SameKind e w w') (hF : ∀ k, F k → F' k) : Own w' F' e v l := ⟨ownsRow_same h.1 hs, fun g hg => hF _ (h.2 g hg)⟩
theorem Own.src {w : World} {F : Nat → Prop} {e : TypeId} {v : Value} {l : List Int} (h : Own w F e v l) : Src w 1 v l.length (bys l) := Src.of_own h.1

/-! ### the append law, at whatever source -/
section
variable {P : Program} (w : World)
theorem run_append_nil_src (base : Nat) (t ty e : TypeId) (i : TypeInfo) (size : Nat) (ht : P.underlying t = some (.slice e)) (hi : P.info? e = some i)
    (v : Value) (n : Nat) (xs : List Value) (hown : w.ownsRow base e size v n xs) (c : Nat) : (Builtin.append_ #[t, t] ty #[v, .slice none 0 c]).run P w = .ok v w := by
  rcases hown.2 with ⟨rfl, rfl⟩ | ⟨g, cap, cur, rfl, _, _, hnc, _⟩
  · simp [Builtin.append_, run_underlying ht, sizeOf, typeInfo, hi, Builtin.lenOf, Builtin.firstCells]
  · simp [Builtin.append_, run_underlying ht, sizeOf, typeInfo, hi, Builtin.lenOf, Builtin.firstCells, hnc, storeCells]

theorem run_append_src (base : Nat) (t ty e : TypeId) (i : TypeInfo) (z : Value) (size bytes : Nat) (ht : P.underlying t = some (.slice e)) (hi : P.info? e = some i) (hz : i.zero = some z)
    (hsize : i.size = size) (hby : i.bytes = bytes) (hzs : z.cells.size = size) (hsz : 0 < size)
    (v : Value) (n : Nat) (xs : List Value) (hown : w.ownsRow base e size v n xs)
    (x : Value) (m : Nat) (news : List Value) (hr : Src w size x m news) (h1 : ∀ u ∈ news, u.oneCell' = true)
    (h63 : n + m ≤ maxLen) (hbytes : (n + m) * bytes ≤ 140737488355328) (hbase : base ≤ w.heap.size) :
    ∃ v' w', (Builtin.append_ #[t, t] ty #[v, x]).run P w = .ok v' w' ∧ w'.ownsRow base e size v' (n + m) (xs ++ news) ∧ w.grownBy w' v.ownBlock ∧
      (v'.ownBlock = v.ownBlock ∨ v'.ownBlock = some w.heap.size) := by
  obtain ⟨A, c, rfl, hmc, hl, hc⟩ := hr
  rcases A with _ | ad
  · have hn : news = [] := by
      cases news with
      | nil => rfl
      | cons u r => obtain ⟨ad, h, _⟩ := hc 0 u rfl; cases h
    subst hn
    have hm : m = 0 := by
      rcases Nat.eq_zero_or_pos m with h0 | h0
      · exact h0
      · have := Nat.mul_pos h0 hsz; simp at hl; omega
    subst hm
    exact ⟨v, w, run_append_nil_src w base t ty e i size ht hi v n xs hown c, by simpa using hown, World.grownBy.refl w _, .inl rfl⟩
  · have hcells : ∀ j u, news[j]? = some u → w.cell? (ad.add j) = some u := by
      intro j u hu
      obtain ⟨ad', h, hx⟩ := hc j u hu
      cases h
      exact hx
    obtain ⟨v', w', hrun, h2, h3, _, h5⟩ := run_append_own_at (P := P) w base t ty e i z size bytes ht hi hz hsize hby hzs hsz v n xs hown ad m c news hl hcells h1 h63 hbytes hbase
    exact ⟨v', w', hrun, h2, h3, h5⟩
end

/-- append onto nil: a new row, or nil. -/
theorem run_append_fresh {P : Program} (w : World) (t ty e : TypeId) (i : TypeInfo) (z : Value) (size bytes : Nat) (ht : P.underlying t = some (.slice e)) (hi : P.info? e = some i) (hz : i.zero = some z)
    (hsize : i.size = size) (hby : i.bytes = bytes) (hzs : z.cells.size = size) (hsz : 0 < size)
    (x : Value) (m : Nat) (news : List Value) (hr : Src w size x m news) (h1 : ∀ u ∈ news, u.oneCell' = true)
    (h63 : m ≤ maxLen) (hbytes : m * bytes ≤ 140737488355328) :
    ∃ A c w', (Builtin.append_ #[t, t] ty #[.slice none 0 0, x]).run P w = .ok (.slice A m c) w' ∧ w'.ownsRow w.heap.size e size (.slice A m c) m news ∧ w.grownBy w' none := by
  obtain ⟨v', w', hrun, h2, h3, h4⟩ := run_append_src (P := P) w w.heap.size t ty e i z size bytes ht hi hz hsize hby hzs hsz (.slice none 0 0) 0 [] (World.ownsRow_nil _ _ _ _) x m news hr h1 (by omega) (by simpa using hbytes) (Nat.le_refl _)
  simp only [Nat.zero_add, List.nil_append] at h2
  obtain ⟨A, c, rfl, _⟩ := ownsRow_slice h2
  refine ⟨A, c, w', hrun, h2, ⟨h3.os, h3.tape, h3.output, h3.size, h3.block⟩⟩

/-! ### one step, handed over by its run -/
section
variable {P : Program} {ops : Array Oper} {o : Oper} {a : Act} {w w' : World} {K : Act → World → Prop} {Q : Exit → Act → World → Prop} {E : Prop} {rest : List Oper}
theorem wp_val {v : Value} (hrun : (execOp a.eval o).run P w = .ok (.value v) w') (h : K (a.put o.dst v) w') : o.wp P a w K Q := by
  unfold Oper.wp
  rw [hrun]
  exact h
theorem wp_void (hrun : (execOp a.eval o).run P w = .ok .skip w') (h : K (a.put o.dst undef) w') : o.wp P a w K Q := by
  unfold Oper.wp
  rw [hrun]
  exact h
theorem run_op_append {s x : Operand} {ts : Array TypeId} {v : Value} (ho : o.op = .call { callee := .builtin .append, args := #[s, x], argTypes := ts })
    (hrun : (Builtin.append_ ts o.type #[a.eval s, a.eval x]).run P w = .ok v w') : (execOp a.eval o).run P w = .ok (.value v) w' := by
  unfold execOp
  simp only [ho, resolve, invoke, builtin, Sem.run_bind, Sem.run_pure, Result.andThen_ok, List.map_toArray, List.map_cons, List.map_nil, hrun]
theorem run_op_copy {s x : Operand} {ts : Array TypeId} {v : Value} (ho : o.op = .call { callee := .builtin .copy, args := #[s, x], argTypes := ts })
    (hrun : (Builtin.copy_ ts o.type #[a.eval s, a.eval x]).run P w = .ok v w') : (execOp a.eval o).run P w = .ok (.value v) w' := by
  unfold execOp
  simp only [ho, resolve, invoke, builtin, Sem.run_bind, Sem.run_pure, Result.andThen_ok, List.map_toArray, List.map_cons, List.map_nil, hrun]
theorem run_op_delete {s x : Operand} {ts : Array TypeId} {v : Value} (ho : o.op = .call { callee := .builtin .delete, args := #[s, x], argTypes := ts })
    (hrun : (Builtin.delete_ ts o.type #[a.eval s, a.eval x]).run P w = .ok v w') : (execOp a.eval o).run P w = .ok (.value v) w' := by
  unfold execOp
  simp only [ho, resolve, invoke, builtin, Sem.run_bind, Sem.run_pure, Result.andThen_ok, List.map_toArray, List.map_cons, List.map_nil, hrun]
theorem run_op_lookup {m x : Operand} {t : TypeId} {c : Bool} {v : Value} (ho : o.op = .lookup t m x c)
    (hrun : (Instr.lookup t (a.eval m) (a.eval x) c).run P w = .ok v w') : (execOp a.eval o).run P w = .ok (.value v) w' := by
  unfold execOp
  simp only [ho, Sem.run_bind, Sem.run_pure, Result.andThen_ok, hrun]
theorem run_op_mapUpdate {m x y : Operand} {t : TypeId} (ho : o.op = .mapUpdate t m x y)
    (hrun : (Instr.mapUpdate t (a.eval m) (a.eval x) (a.eval y)).run P w = .ok () w') : (execOp a.eval o).run P w = .ok .skip w' := by
  unfold execOp
  simp only [ho, Sem.run_bind, Sem.run_pure, Result.andThen_ok, hrun]
theorem run_op_slice {x : Operand} {t : TypeId} {lo hi mx : Option Operand} {v : Value} (ho : o.op = .slice t x lo hi mx)
    (hrun : (Instr.sliceAt t (a.eval x) (lo.map a.eval) (hi.map a.eval) (mx.map a.eval)).run P w = .ok v w') : (execOp a.eval o).run P w = .ok (.value v) w' := by
  unfold execOp
  simp only [ho, Sem.run_bind, Sem.run_pure, Result.andThen_ok, hrun]
theorem run_op_convert {x : Operand} {s t : TypeId} {v : Value} (ho : o.op = .convert s t x)
    (hrun : (convert s t (a.eval x)).run P w = .ok v w') : (execOp a.eval o).run P w = .ok (.value v) w' := by
  unfold execOp
  simp only [ho, Sem.run_bind, Sem.run_pure, Result.andThen_ok, hrun]
theorem run_op_alloc {t : TypeId} {v : Value} (ho : o.op = .alloc t) (hrun : (Instr.alloc t true (.tuple #[])).run P w = .ok v w') : (execOp a.eval o).run P w = .ok (.value v) w' := by
  unfold execOp
  simp only [ho, Sem.run_bind, Sem.run_pure, Result.andThen_ok, hrun]
theorem run_op_load {x : Operand} {t : TypeId} {v : Value} (ho : o.op = .load t x) (hrun : (Instr.loadAt t (a.eval x)).run P w = .ok v w') : (execOp a.eval o).run P w = .ok (.value v) w' := by
  unfold execOp
  simp only [ho, Sem.run_bind, Sem.run_pure, Result.andThen_ok, hrun]
theorem run_op_store {x y : Operand} {t : TypeId} (ho : o.op = .store t x y) (hrun : (Instr.storeAt t (a.eval x) (a.eval y)).run P w = .ok () w') : (execOp a.eval o).run P w = .ok .skip w' := by
  unfold execOp
  simp only [ho, Sem.run_bind, Sem.run_pure, Result.andThen_ok, hrun]
theorem run_op_call {f : Operand} {fi : FuncId} {args : Array Operand} {ts : Array TypeId} (ho : o.op = .call { callee := .value f, args := args, argTypes := ts }) (hf : a.eval f = .func (.func fi) #[] #[])
    {n : Next} (hrun : (callFunc fi (args.map a.eval)).run P w = .ok n w') : (execOp a.eval o).run P w = .ok n w' := by
  unfold execOp
  simp only [ho, resolve, Deferred.ofValue, hf, invoke, Sem.run_bind, Sem.run_pure, Result.andThen_ok, Array.empty_append, Array.append_empty, hrun]
/-- In a list of operations. -/
theorem wpList_run {v : Value} (hg : o.guard = none) (hrun : (execOp a.eval o).run P w = .ok (.value v) w') (h : wpList P ops Q rest (a.put o.dst v) w') : wpList P ops Q (o :: rest) a w :=
  wpList_plain hg fun _ hK => wp_val hrun (hK _ _ h)
theorem wpList_void (hg : o.guard = none) (hrun : (execOp a.eval o).run P w = .ok .skip w') (h : wpList P ops Q rest (a.put o.dst undef) w') : wpList P ops Q (o :: rest) a w :=
  wpList_plain hg fun _ hK => wp_void hrun (hK _ _ h)
/-- In a region that draws. -/
theorem step_run {v : Value} (hg : o.guard = none) (hrun : (execOp a.eval o).run P w = .ok (.value v) w') (h : K (a.put o.dst v) w') : if Region.wanted o (yielded ops a.tmps) = true then Oper.wp P o a w K Q else E := by
  have hw : Region.wanted o (yielded ops a.tmps) = true := by simp [Region.wanted, hg]
  rw [if_pos hw]
  exact wp_val hrun h
theorem step_void (hg : o.guard = none) (hrun : (execOp a.eval o).run P w = .ok .skip w') (h : K (a.put o.dst undef) w') : if Region.wanted o (yielded ops a.tmps) = true then Oper.wp P o a w K Q else E := by
  have hw : Region.wanted o (yielded ops a.tmps) = true := by simp [Region.wanted, hg]
  rw [if_pos hw]
  exact wp_void hrun h
end

end Go.Proofs.Ytnndkameadlkdaa
