/- A list of things to do, as it came in: Long, small. -/
import Derived.Test.YtnndkameadlkdaaDoA
import Derived.Deep.LoopGhost
namespace Go.Proofs.Ytnndkameadlkdaa
open Go.RowKit

structure ArgD (w0 : World) (v : Value) (ds : List DoD) : Prop where
  src : Src w0 5 v ds.length (ds.flatMap DoD.cells)
  arg : ∀ d ∈ ds, Arg w0 d.bv d.b
  len : ds.length ≤ 140737488355328

theorem ArgD.srcAt {w0 w : World} {v : Value} {ds : List DoD} (h : ArgD w0 v ds) (he : Evo (fun _ => False) w0 w) : Src w 5 v ds.length (ds.flatMap DoD.cells) := h.src.evo he (fun _ _ _ hf => hf)

theorem doCells_at (ds : List DoD) (i j : Nat) (hi : i < ds.length) (hj : j < 5) : (ds.flatMap DoD.cells)[i * 5 + j]? = (ds[i]).cells[j]? := by
  induction ds generalizing i with
  | nil => simp at hi
  | cons d ds ih =>
    rw [List.flatMap_cons]
    have hl : d.cells.length = 5 := rfl
    cases i with
    | zero => rw [List.getElem?_append_left (by omega)]; simp
    | succ i =>
      rw [List.getElem?_append_right (by omega)]
      have : (i + 1) * 5 + j - d.cells.length = i * 5 + j := by omega
      rw [this, ih i (by simpa using hi)]
      simp

theorem Src.doAt {w : World} {A : Option Addr} {n c : Nat} {ds : List DoD} (h : Src w 5 (.slice A n c) n (ds.flatMap DoD.cells)) {i : Nat} (hi : i < ds.length) :
    ∃ b o, A = some ⟨b, o, none⟩ ∧ ∀ j u, (ds[i]).cells[j]? = some u → w.cell? ⟨b, o + i * 5 + j, none⟩ = some u := by
  obtain ⟨A', c', e, hnc, hl, hc⟩ := h
  cases e
  have h0 := doCells_at ds 0 0 (by omega) (by omega)
  obtain ⟨⟨b, o, sp⟩, rfl, h0⟩ := hc (0 * 5 + 0) _ h0
  have hsp : sp = none := World.cell?_spot h0
  subst hsp
  refine ⟨b, o, rfl, fun j u hu => ?_⟩
  have hj : j < 5 := (List.getElem?_eq_some_iff.1 hu).1
  obtain ⟨ad', e, h⟩ := hc (i * 5 + j) u (by rw [doCells_at ds i j hi hj]; exact hu)
  cases e
  have e2 : ((⟨b, o, none⟩ : Addr).add (i * 5 + j)) = ⟨b, o + i * 5 + j, none⟩ := by
    unfold Addr.add
    split
    · rename_i h0
      have e3 : i * 5 = 0 := by omega
      have e4 : j = 0 := by omega
      rw [e3, e4]
      rfl
    · rw [Nat.add_assoc]
  rw [e2] at h
  exact h

def longs : List DoD → Nat
  | [] => 0
  | d :: ds => 1 + d.b.length + longs ds
theorem longs_take (ds : List DoD) (i : Nat) (hi : i < ds.length) : longs (ds.take (i + 1)) = longs (ds.take i) + 1 + (ds[i]).b.length := by
  induction ds generalizing i with
  | nil => simp at hi
  | cons d ds ih =>
    cases i with
    | zero => simp [longs]
    | succ i =>
      simp only [List.take_succ_cons, longs, List.getElem_cons_succ]
      rw [ih i (by simpa using hi)]
      omega
theorem longs_le (ds : List DoD) (k : Nat) (h : ∀ d ∈ ds, d.b.length ≤ k) : longs ds ≤ ds.length * (k + 1) := by
  induction ds with
  | nil => simp [longs]
  | cons d ds ih =>
    have h1 := h d (by simp)
    have h2 := ih (fun x hx => h x (by simp [hx]))
    simp only [longs, List.length_cons, Nat.add_mul]
    omega

set_option maxRecDepth 100000 in
set_option maxHeartbeats 400000 in
theorem long_walk (w : World) (v : Value) (ds : List DoD) (h : ArgD w v ds) (hn : ds.length ≤ 40) :
    Calls Try.prog 40 #[v] w fun e w' => e = .returned (.int .i64 (longs ds)) ∧ w = w' := by
  obtain ⟨A, c, rfl, hc⟩ : ∃ A c, v = .slice A ds.length c ∧ ds.length ≤ c := by obtain ⟨A, c, e, h, _⟩ := h.src; exact ⟨A, c, e, h⟩
  go_enter Try.func40, Try.ntmps40
  go_wp2
  go_loopg [3, 4] ds.length (fun g s i wx => ∃ k : Nat, k ≤ ds.length ∧ g = ds.length - k ∧ i = .int .i64 k ∧ s = .int .i64 (longs (ds.take k)) ∧ w = wx)
  case atStart => exact ⟨0, by omega, rfl, rfl, rfl, rfl⟩
  case round =>
    obtain ⟨k, hk, rfl, rfl, rfl, rfl⟩ := hrel
    by_cases hkl : k < ds.length
    · have hkz : (k : Int) < (ds.length : Int) := by omega
      obtain ⟨pb, po, rfl, hcell⟩ := h.src.doAt hkl
      have hd := h.arg _ (List.getElem_mem hkl)
      obtain ⟨B, cb, hB, hcb⟩ : ∃ A c, (ds[k]).bv = .slice A (ds[k]).b.length c ∧ (ds[k]).b.length ≤ c := by obtain ⟨A, c, e, h, _⟩ := hd.src; exact ⟨A, c, e, h⟩
      have h4 := hcell 4 (ds[k]).bv rfl
      rw [hB] at h4
      have hs : longs (ds.take k) ≤ 5629499534213160 := by
        have h1 := longs_le (ds.take k) 140737488355328 (fun d hd => (h.arg d (List.mem_of_mem_take hd)).len)
        have h2 : (ds.take k).length ≤ 40 := by rw [List.length_take]; omega
        exact Nat.le_trans h1 (Nat.le_trans (Nat.mul_le_mul_right _ h2) (by decide))
      have hst := longs_take ds k hkl
      have hbl := hd.len
      clear hcell hd
      go_wp2
      go_roundg (ds.length - (k + 1))
      case measure => omega
      case rel =>
        refine ⟨k + 1, by omega, rfl, by first | rfl | simp, ?_, rfl⟩
        rw [hst]
        congr 1
    · obtain rfl : k = ds.length := by omega
      rw [List.take_length]
      go_wp2
      go_ret
      exact ⟨rfl, rfl⟩

end Go.Proofs.Ytnndkameadlkdaa
