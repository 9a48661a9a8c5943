/- What is done to a world, one thing behind the other: did, Long, small. -/
import Derived.Test.YtnndkameadlkdaaLawC
import Derived.Test.YtnndkameadlkdaaLawI
namespace Go.Proofs.Ytnndkameadlkdaa
open Go.RowKit

/-- One thing to do, as it came in. -/
structure DoD where
  kind : Int
  at_ : Int
  slot : Int
  n : Int
  bv : Value
  b : List Int

def DoD.cells (d : DoD) : List Value := [.int .i64 d.kind, .int .i64 d.at_, .int .i64 d.slot, .int .i64 d.n, d.bv]

namespace WS
def did (t : WS) (d : DoD) : WS :=
  if d.kind = 1 then t.read d.at_ d.slot else if d.kind = 2 then t.write d.at_ d.slot d.b else if d.kind = 3 then t.look d.at_ else if d.kind = 4 then t.sealing d.at_ d.b else
  if d.kind = 5 then t.bump else if d.kind = 6 then t.lie d.n d.b else if d.kind = 7 then t.arm d.n else if d.kind = 8 then t.restart else if d.kind = 9 then t.set (d.n % 18446744073709551616) else t
def didL (t : WS) (d : DoD) : List Int := if d.kind = 1 then t.readB d.at_ d.slot else if d.kind = 3 then t.lookB d.at_ else []
def didB (t : WS) (d : DoD) : Bool := if d.kind = 2 then t.writeB d.at_ d.slot else if d.kind = 4 then t.sealB d.at_ d.b else if d.kind = 5 then t.bumpB else false
end WS

theorem Goes.after {w w1 w' : World} {F F' : Nat → Prop} {g : Nat} {t' : WS} (e : Evo (fun _ => False) w w1) (h : Goes w1 F g t' w' F') : Goes w F g t' w' F' where
  rep := h.rep
  evo := (e.mono (fun _ hf => hf.elim)).trans h.evo (fun _ hf => .inl hf)
  new k hk := by
    rcases h.new k hk with h1 | h1
    · exact .inl h1
    · exact .inr (Nat.le_trans e.size h1)
  old := h.old
theorem Res.after {w w1 w' : World} {F' : Nat → Prop} {v : Value} {l : List Int} (e : Evo (fun _ => False) w w1) (h : Res w1 w' F' v l) : Res w w' F' v l := by
  obtain ⟨A, c, e1, ho, hn⟩ := h
  exact ⟨A, c, e1, ownsRow_base ho (fun g hg => Nat.le_trans e.size (ho.lt g hg).1), hn⟩
theorem Res.nil (w w' : World) (F : Nat → Prop) : Res w w' F (.slice none 0 0) [] := ⟨none, 0, rfl, World.ownsRow_nil _ _ _ _, by simp [Value.ownBlock]⟩

section
variable {w : World} {g : Nat} {t : WS} {F : Nat → Prop}

set_option maxRecDepth 100000 in
set_option maxHeartbeats 400000 in
theorem R_did (hR : Rep w g t F) (d : DoD) (hs : Src w 1 d.bv d.b.length (bys d.b)) (hl : Okb d.b) (hF : ∀ ad n c, d.bv = .slice (some ad) n c → 0 < n → ad.block < w.heap.size ∧ ¬ F ad.block) (hsm : t.trace.length < 900000) :
    Calls Try.prog 25 #[wp0 g, .agg d.cells.toArray] w fun e w' => ∃ v F', e = .returned (.tuple #[v, .bool (t.didB d)]) ∧ Res w w' F' v (t.didL d) ∧ Goes w F g (t.did d) w' F' := by
  obtain ⟨kind, at_, slot, n, bv, b⟩ := d
  dsimp only at hs hl hF
  unfold DoD.cells
  dsimp only
  have hev : Evo (fun _ => False) w (w.alloc (.cells #[.int .i64 kind, .int .i64 at_, .int .i64 slot, .int .i64 n, bv] 44)) := (Evo.refl _ w).alloc _
  have hR1 : Rep (w.alloc (.cells #[.int .i64 kind, .int .i64 at_, .int .i64 slot, .int .i64 n, bv] 44)) g t F := hR.apart hev (fun _ _ hf => hf)
  have hs1 : Src (w.alloc (.cells #[.int .i64 kind, .int .i64 at_, .int .i64 slot, .int .i64 n, bv] 44)) 1 bv b.length (bys b) := hs.evo0 hev (fun _ _ _ _ hf => hf)
  have hF1 : ∀ ad n' c, bv = .slice (some ad) n' c → 0 < n' → ad.block < (w.alloc (.cells #[.int .i64 kind, .int .i64 at_, .int .i64 slot, .int .i64 n, bv] 44)).heap.size ∧ ¬ F ad.block := fun ad n' c e h => ⟨Nat.lt_of_lt_of_le (hF ad n' c e h).1 hev.size, (hF ad n' c e h).2⟩
  clear hs hF
  by_cases h1 : kind = 1
  · subst h1
    go_enter Try.func25, Try.ntmps25
    go_wp2_with fail
    refine (R_read hR1 at_ slot hsm).mono ?_
    rintro e w' ⟨v, F', rfl, hr, hg⟩
    go_wp2_with fail
    go_ret2
    exact ⟨_, F', rfl, hr.after hev, hg.after hev⟩
  by_cases h2 : kind = 2
  · subst h2
    go_enter Try.func25, Try.ntmps25
    go_wp2_with fail
    refine (R_write hR1 at_ slot bv b hs1 hl hF1 hsm).mono ?_
    rintro e w' ⟨F', rfl, hg⟩
    go_wp2_with fail
    go_ret2
    exact ⟨_, F', rfl, Res.nil _ _ _, hg.after hev⟩
  by_cases h3 : kind = 3
  · subst h3
    go_enter Try.func25, Try.ntmps25
    go_wp2_with fail
    refine (R_look hR1 at_ hsm).mono ?_
    rintro e w' ⟨v, F', rfl, hr, hg⟩
    go_wp2_with fail
    go_ret2
    exact ⟨_, F', rfl, hr.after hev, hg.after hev⟩
  by_cases h4 : kind = 4
  · subst h4
    go_enter Try.func25, Try.ntmps25
    go_wp2_with fail
    refine (R_seal hR1 at_ bv b hs1 hl hF1 hsm).mono ?_
    rintro e w' ⟨F', rfl, hg⟩
    go_wp2_with fail
    go_ret2
    exact ⟨_, F', rfl, Res.nil _ _ _, hg.after hev⟩
  by_cases h5 : kind = 5
  · subst h5
    go_enter Try.func25, Try.ntmps25
    go_wp2_with fail
    refine (R_bump hR1 hsm).mono ?_
    rintro e w' ⟨F', rfl, hg⟩
    go_wp2_with fail
    go_ret2
    exact ⟨_, F', rfl, Res.nil _ _ _, hg.after hev⟩
  by_cases h6 : kind = 6
  · subst h6
    go_enter Try.func25, Try.ntmps25
    go_wp2_with fail
    refine (R_lie hR1 n bv b hs1 hl).mono ?_
    rintro e w' ⟨F', rfl, hg⟩
    go_wp2_with fail
    go_ret2
    exact ⟨_, F', rfl, Res.nil _ _ _, hg.after hev⟩
  by_cases h7 : kind = 7
  · subst h7
    go_enter Try.func25, Try.ntmps25
    go_wp2_with fail
    refine (R_arm hR1 n).mono ?_
    rintro e w' ⟨rfl, hg⟩
    go_wp2_with fail
    go_ret2
    exact ⟨_, F, rfl, Res.nil _ _ _, hg.after hev⟩
  by_cases h8 : kind = 8
  · subst h8
    go_enter Try.func25, Try.ntmps25
    go_wp2_with fail
    refine (R_restart hR1).mono ?_
    rintro e w' ⟨rfl, hg⟩
    go_wp2_with fail
    go_ret2
    exact ⟨_, F, rfl, Res.nil _ _ _, hg.after hev⟩
  by_cases h9 : kind = 9
  · subst h9
    go_enter Try.func25, Try.ntmps25
    go_wp2_with fail
    refine (R_set hR1 (n % 18446744073709551616) (Int.emod_nonneg _ (by omega)) (by have := Int.emod_lt_of_pos n (b := 18446744073709551616) (by omega); omega)).mono ?_
    rintro e w' ⟨rfl, hg⟩
    go_wp2_with fail
    go_ret2
    exact ⟨_, F, rfl, Res.nil _ _ _, hg.after hev⟩
  have e0 : WS.did t ⟨kind, at_, slot, n, bv, b⟩ = t := by simp only [WS.did, h1, h2, h3, h4, h5, h6, h7, h8, h9, if_false]
  have e1 : WS.didL t ⟨kind, at_, slot, n, bv, b⟩ = [] := by simp only [WS.didL, h1, h3, if_false]
  have e2 : WS.didB t ⟨kind, at_, slot, n, bv, b⟩ = false := by simp only [WS.didB, h2, h4, h5, if_false]
  rw [e0, e1, e2]
  clear e0 e1 e2
  have g1 : (kind == 1) = false := by simpa using h1
  have g2 : (kind == 2) = false := by simpa using h2
  have g3 : (kind == 3) = false := by simpa using h3
  have g4 : (kind == 4) = false := by simpa using h4
  have g5 : (kind == 5) = false := by simpa using h5
  have g6 : (kind == 6) = false := by simpa using h6
  have g7 : (kind == 7) = false := by simpa using h7
  have g8 : (kind == 8) = false := by simpa using h8
  have g9 : (kind == 9) = false := by simpa using h9
  go_enter Try.func25, Try.ntmps25
  go_wp2_with fail
  go_ret2
  exact ⟨_, F, rfl, Res.nil _ _ _, (Goes.refl hR1).after hev⟩
end

end Go.Proofs.Ytnndkameadlkdaa
