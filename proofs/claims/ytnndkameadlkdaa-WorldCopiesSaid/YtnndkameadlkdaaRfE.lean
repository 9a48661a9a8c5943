/- The reference's world, as data; the walks of its Read and Look. -/
import Derived.Test.YtnndkameadlkdaaRfD
import Derived.Test.YtnndkameadlkdaaGenH
import Derived.IntWalk
import Derived.Deep.DeepCutAuto
namespace Go.Proofs.Ytnndkameadlkdaa
open Go.RowKit

/-- Blocks that hold worlds, no bytes. -/
def Boxed (F : Nat → Prop) (w : World) : Prop := ∀ k, F k → ∃ C, w.heap[k]? = some (.cells C 56 (0, 0)) ∧ ∀ n, ∀ x ∈ C.toList, x ≠ .int .u8 n
theorem tcells_u8 (t : WS) (S E L T : Option Addr) (ns cs ne ce nl cl nt ct : Nat) (n : Int) : ∀ x ∈ (tcells t (.slice S ns cs) (.slice E ne ce) (.slice L nl cl) (.slice T nt ct)).toList, x ≠ .int .u8 n := by simp [tcells]
theorem Src.keepF {F : Nat → Prop} {w w' : World} {v : Value} {l : List Int} (h : Src w 1 v l.length (bys l)) (he : Evo F w w') (hb : Boxed F w) : Src w' 1 v l.length (bys l) := by
  obtain ⟨A, c, e, hc, hl, hx⟩ := h
  refine ⟨A, c, e, hc, hl, fun j u hu => ?_⟩
  obtain ⟨ad, e1, e2⟩ := hx j u hu
  refine ⟨ad, e1, ?_⟩
  rw [← e2]
  refine he.cell (World.block_lt_of_cell? _ _ e2) (fun hf => ?_)
  have hsp := World.cell?_spot e2
  obtain ⟨n, _, rfl⟩ := List.mem_map.1 (List.mem_of_getElem? hu)
  generalize ad.add j = q at e2 hf hsp
  obtain ⟨qb, qo, qs⟩ := q
  have hsp : qs = none := hsp
  subst hsp
  obtain ⟨C, hC, hn⟩ := hb _ hf
  rw [blk_cell hC qo] at e2
  exact hn n _ (by rw [← Array.getElem?_toList] at e2; exact List.mem_of_getElem? e2) rfl
theorem SrcN.keepF {N F : Nat → Prop} {w w' : World} {v : Value} {l : List Int} (h : SrcN N w 1 v l.length (bys l)) (he : Evo F w w') (hb : Boxed F w) : SrcN N w' 1 v l.length (bys l) := ⟨h.1.keepF he hb, h.2⟩
theorem TrN.keepF {N F : Nat → Prop} {w w' : World} {T : Option Addr} {n c : Nat} {ts : List Tr} (h : TrN N w (.slice T n c) ts) (he : Evo F w w') (hb : Boxed F w) (hT : ∀ ad, T = some ad → ¬ F ad.block) : TrN N w' (.slice T n c) ts := by
  obtain ⟨us, h1, h2, h3⟩ := h
  refine ⟨us, h1, h2.evo he (fun ad c e hf => ?_), fun i x u hx hu => (h3 i x u hx hu).keepF he hb⟩
  cases e
  exact hT ad rfl hf
theorem RowOf.keepF {N F : Nat → Prop} {w w' : World} {A : Option Addr} {n c : Nat} {ls : List (List Int)} (h : RowOf N w (.slice A n c) ls) (he : Evo F w w') (hb : Boxed F w) (hT : ∀ ad, A = some ad → ¬ F ad.block) : RowOf N w' (.slice A n c) ls := by
  obtain ⟨us, h1, h2, h3⟩ := h
  refine ⟨us, h1, h2.evo he (fun ad c e hf => ?_), fun i x u hx hu => (h3 i x u hx hu).keepF he hb⟩
  cases e
  exact hT ad rfl hf
structure RefD (N : Nat → Prop) (w : World) (t : WS) (S E L T : Option Addr) (cs ce cl ct : Nat) (sl : List (List Int)) (ll : List (Int × List Int)) : Prop where
  slots : RowOf N w (.slice S 8 cs) sl
  slen : sl.length = 8
  sat : ∀ a s : Int, 0 ≤ a → a < 4 → (s = 0 ∨ s = 1) → sl[(2 * a + s).toNat]? = some (t.slots a s)
  seals : RowOf N w (.slice E 2 ce) [t.seals 0, t.seals 1]
  lies : LieOf N w (.slice L ll.length cl) ll
  last : ∀ m, lastLie ll m = t.lies m
  trace : TrN N w (.slice T t.trace.length ct) t.trace
  blocks : t.blocks = 4
  kS : ∀ ad, S = some ad → KindN N w 22 ad.block
  kE : ∀ ad, E = some ad → KindN N w 22 ad.block
  kL : ∀ ad, L = some ad → KindN N w 91 ad.block
  kT : ∀ ad, T = some ad → KindN N w 52 ad.block

/-- What bounds a world's numbers. -/
structure Bd (t : WS) : Prop where
  power0 : 0 ≤ t.power
  power1 : t.power ≤ 1000000
  reads0 : 0 ≤ t.reads
  reads1 : t.reads ≤ 900000
  tlen : t.trace.length ≤ 900000
  s272 : ∀ a s, (t.slots a s).length = 272
  e0 : (t.seals 0).length ≤ 100000
  e1 : (t.seals 1).length ≤ 100000

theorem RefD.evo0 {N : Nat → Prop} {w w' : World} {t : WS} {S E L T : Option Addr} {cs ce cl ct : Nat} {sl : List (List Int)} {ll : List (Int × List Int)} (h : RefD N w t S E L T cs ce cl ct sl ll) (he : Evo (fun _ => False) w w') : RefD N w' t S E L T cs ce cl ct sl ll :=
  ⟨h.slots.evo0 he, h.slen, h.sat, h.seals.evo0 he, h.lies.evo0 he, h.last, h.trace.evo0 he, h.blocks, fun ad e => (h.kS ad e).evo he (fun hf => hf), fun ad e => (h.kE ad e).evo he (fun hf => hf), fun ad e => (h.kL ad e).evo he (fun hf => hf), fun ad e => (h.kT ad e).evo he (fun hf => hf)⟩

theorem Boxed.not {N F : Nat → Prop} {w : World} (hb : Boxed F w) {e : TypeId} (he : e ≠ 56) {b : Nat} (h : KindN N w e b) : ¬ F b := fun hf => by
  obtain ⟨C, hC, _⟩ := hb b hf
  exact h.ne ⟨C, _, hC⟩ he rfl
theorem LieOf.keepF {N F : Nat → Prop} {w w' : World} {A : Option Addr} {n c : Nat} {ls : List (Int × List Int)} (h : LieOf N w (.slice A n c) ls) (he : Evo F w w') (hb : Boxed F w) (hT : ∀ ad, A = some ad → ¬ F ad.block) : LieOf N w' (.slice A n c) ls := by
  obtain ⟨us, h1, h2, h3⟩ := h
  refine ⟨us, h1, h2.evo he (fun ad c e hf => ?_), fun i x u hx hu => (h3 i x u hx hu).keepF he hb⟩
  cases e
  exact hT ad rfl hf
/-- A world stays while boxes turn. -/
theorem RefD.keepF {N F : Nat → Prop} {w w' : World} {t : WS} {S E L T : Option Addr} {cs ce cl ct : Nat} {sl : List (List Int)} {ll : List (Int × List Int)} (h : RefD N w t S E L T cs ce cl ct sl ll) (he : Evo F w w') (hb : Boxed F w) : RefD N w' t S E L T cs ce cl ct sl ll :=
  have nS := fun ad e => hb.not (by decide) (h.kS ad e)
  have nE := fun ad e => hb.not (by decide) (h.kE ad e)
  have nL := fun ad e => hb.not (by decide) (h.kL ad e)
  have nT := fun ad e => hb.not (by decide) (h.kT ad e)
  ⟨h.slots.keepF he hb nS, h.slen, h.sat, h.seals.keepF he hb nE, h.lies.keepF he hb nL, h.last, h.trace.keepF he hb nT, h.blocks,
    fun ad e => (h.kS ad e).evo he (nS ad e), fun ad e => (h.kE ad e).evo he (nE ad e), fun ad e => (h.kL ad e).evo he (nL ad e), fun ad e => (h.kT ad e).evo he (nT ad e)⟩

/-- The blocks N turn. -/
theorem RefD.turn {N : Nat → Prop} {w w' : World} {t : WS} {S E L T : Option Addr} {cs ce cl ct : Nat} {sl : List (List Int)} {ll : List (Int × List Int)} (h : RefD N w t S E L T cs ce cl ct sl ll) (he : Evo N w w') : RefD N w' t S E L T cs ce cl ct sl ll :=
  ⟨h.slots.turn he, h.slen, h.sat, h.seals.turn he, h.lies.turn he, h.last, h.trace.turn he, h.blocks, fun ad e => (h.kS ad e).evo he (h.kS ad e).2, fun ad e => (h.kE ad e).evo he (h.kE ad e).2, fun ad e => (h.kL ad e).evo he (h.kL ad e).2, fun ad e => (h.kT ad e).evo he (h.kT ad e).2⟩
theorem KindN.other {N N' : Nat → Prop} {w : World} {e : TypeId} {b : Nat} (h : KindN N w e b) (hN : ∀ k, N' k → N k ∨ w.heap.size ≤ k) : KindN N' w e b := by
  refine ⟨h.1, fun hf => ?_⟩
  rcases hN _ hf with h1 | h1
  · exact h.2 h1
  · obtain ⟨C, f, hc⟩ := h.1
    have := heap_lt hc
    omega
theorem RefD.other {N N' : Nat → Prop} {w : World} {t : WS} {S E L T : Option Addr} {cs ce cl ct : Nat} {sl : List (List Int)} {ll : List (Int × List Int)} (h : RefD N w t S E L T cs ce cl ct sl ll) (hN : ∀ k, N' k → N k ∨ w.heap.size ≤ k) : RefD N' w t S E L T cs ce cl ct sl ll :=
  ⟨h.slots.other hN, h.slen, h.sat, h.seals.other hN, h.lies.other hN, h.last, h.trace.other hN, h.blocks, fun ad e => (h.kS ad e).other hN, fun ad e => (h.kE ad e).other hN, fun ad e => (h.kL ad e).other hN, fun ad e => (h.kT ad e).other hN⟩

def RefT (N : Nat → Prop) (w : World) (v : Value) (t : WS) (n : Nat) : Prop :=
  ∃ S E L T cs ce cl ct sl ll, v = .agg (tcells t (.slice S 8 cs) (.slice E 2 ce) (.slice L ll.length cl) (.slice T t.trace.length ct)) ∧ RefD N w t S E L T cs ce cl ct sl ll ∧ ll.length ≤ n
theorem RefT.evo0 {N : Nat → Prop} {w w' : World} {v : Value} {t : WS} {n : Nat} (h : RefT N w v t n) (he : Evo (fun _ => False) w w') : RefT N w' v t n := by
  obtain ⟨S, E, L, T, cs, ce, cl, ct, sl, ll, e, h1, h2⟩ := h
  exact ⟨S, E, L, T, cs, ce, cl, ct, sl, ll, e, h1.evo0 he, h2⟩

theorem RefT.turn {N : Nat → Prop} {w w' : World} {v : Value} {t : WS} {n : Nat} (h : RefT N w v t n) (he : Evo N w w') : RefT N w' v t n := by
  obtain ⟨S, E, L, T, cs, ce, cl, ct, sl, ll, e, h1, h2⟩ := h
  exact ⟨S, E, L, T, cs, ce, cl, ct, sl, ll, e, h1.turn he, h2⟩
theorem RefT.other {N N' : Nat → Prop} {w : World} {v : Value} {t : WS} {n : Nat} (h : RefT N w v t n) (hN : ∀ k, N' k → N k ∨ w.heap.size ≤ k) : RefT N' w v t n := by
  obtain ⟨S, E, L, T, cs, ce, cl, ct, sl, ll, e, h1, h2⟩ := h
  exact ⟨S, E, L, T, cs, ce, cl, ct, sl, ll, e, h1.other hN, h2⟩

/-- Boxes that lie there. -/
structure Boxes (w wx : World) (C : Array Value) : Prop where
  ev : Evo (fun _ => False) w wx
  b1 : wx.heap[w.heap.size]? = some (.cells C 56 (0, 0))
  b2 : wx.heap[w.heap.size + 1]? = some (.cells z56 56 (0, 0))
theorem Boxes.start (w : World) (C : Array Value) : Boxes w ((w.alloc (.cells C 56)).alloc (.cells z56 56)) C := by
  refine ⟨((Evo.refl _ w).alloc _).alloc _, ?_, ?_⟩
  · rw [Below.heap_alloc _ _ _ (by simp)]; exact heap_alloc_new _ _
  · have := heap_alloc_new (w.alloc (.cells C 56)) (.cells z56 56)
    rw [World.size_alloc] at this
    exact this
theorem Boxes.evo {w wx wy : World} {C : Array Value} (h : Boxes w wx C) (he : Evo (fun _ => False) wx wy) : Boxes w wy C :=
  ⟨h.ev.two he, (he.block _ (heap_lt h.b1) (fun hf => hf)).trans h.b1, (he.block _ (heap_lt h.b2) (fun hf => hf)).trans h.b2⟩
/-- What is told lies in the result's cell. -/
theorem Boxes.put {w wx : World} {C : Array Value} (h : Boxes w wx C) (C' : Array Value) (hs : C'.size = 10) (h1 : C'.all (·.oneCell') = true) :
    ∃ w', (Instr.storeAt 56 (.pointer (some ⟨w.heap.size + 1, 0, none⟩)) (.agg C')).run Try.prog wx = .ok () w' ∧ (∀ i, w'.cell? ⟨w.heap.size + 1, i, none⟩ = C'[i]?) ∧ Evo (fun _ => False) w w' ∧ Evo (fun k => k = w.heap.size + 1) wx w' := by
  obtain ⟨w', hst, hg, he⟩ := store56 wx _ _ C' h.b2 rfl hs h1
  exact ⟨w', hst, blk_cell hg, h.ev.trans he (fun k hk => .inr (by have : k = w.heap.size + 1 := hk; omega)), he⟩
theorem Boxes.load {w wx : World} {C : Array Value} (h : Boxes w wx C) (hs : C.size = 10) : (Instr.loadAt 56 (.pointer (some ⟨w.heap.size, 0, none⟩))).run Try.prog wx = .ok (.agg C) wx := load56 wx _ C h.b1 hs

/-- Bytes do not lie in a world's box. -/
theorem z56_u8 (n : Int) : ∀ x ∈ z56.toList, x ≠ .int .u8 n := by simp [z56]
theorem Src.keepZ {w w' : World} {v : Value} {l : List Int} {b : Nat} (h : Src w 1 v l.length (bys l)) (he : Evo (fun k => k = b) w w') (hb : w.heap[b]? = some (.cells z56 56 (0, 0))) : Src w' 1 v l.length (bys l) := by
  obtain ⟨A, c, e, hc, hl, hx⟩ := h
  refine ⟨A, c, e, hc, hl, fun j u hu => ?_⟩
  obtain ⟨ad, e1, e2⟩ := hx j u hu
  refine ⟨ad, e1, ?_⟩
  rw [← e2]
  refine he.cell (World.block_lt_of_cell? _ _ e2) (fun hf => ?_)
  have hf : (ad.add j).block = b := hf
  have hsp := World.cell?_spot e2
  obtain ⟨n, _, rfl⟩ := List.mem_map.1 (List.mem_of_getElem? hu)
  generalize ad.add j = q at e2 hf hsp
  obtain ⟨qb, qo, qs⟩ := q
  have hf : qb = b := hf
  have hsp : qs = none := hsp
  subst hf hsp
  rw [blk_cell hb qo] at e2
  exact z56_u8 n _ (by rw [← Array.getElem?_toList] at e2; exact List.mem_of_getElem? e2) rfl
theorem SrcN.keepZ {N : Nat → Prop} {w w' : World} {v : Value} {l : List Int} {b : Nat} (h : SrcN N w 1 v l.length (bys l)) (he : Evo (fun k => k = b) w w') (hb : w.heap[b]? = some (.cells z56 56 (0, 0))) : SrcN N w' 1 v l.length (bys l) := ⟨h.1.keepZ he hb, h.2⟩
theorem TrN.keepZ {N : Nat → Prop} {w w' : World} {T : Option Addr} {n c : Nat} {ts : List Tr} {b : Nat} (h : TrN N w (.slice T n c) ts) (he : Evo (fun k => k = b) w w') (hb : w.heap[b]? = some (.cells z56 56 (0, 0))) (hT : ∀ ad, T = some ad → b < ad.block) : TrN N w' (.slice T n c) ts := by
  obtain ⟨us, h1, h2, h3⟩ := h
  refine ⟨us, h1, h2.evo he (fun ad c e hf => ?_), fun i x u hx hu => (h3 i x u hx hu).keepZ he hb⟩
  cases e
  have := hT ad rfl
  have hf : ad.block = b := hf
  omega

/-- A world that is told of in between: its cells, and some bytes. -/
structure Mid (N : Nat → Prop) (w wx : World) (C C2 : Array Value) (g : Nat) (B : Option Addr) (d : Nat) (l : List Int) : Prop where
  box : Boxes w wx C
  b3 : wx.heap[g]? = some (.cells C2 56 (0, 0))
  gt : w.heap.size + 1 < g
  src : SrcN N wx 1 (.slice B l.length d) l.length (bys l)
theorem Mid.mkA {N : Nat → Prop} {w w1 w2 : World} {C C2 : Array Value} {B : Option Addr} {d : Nat} {l : List Int} (h : Boxes w w1 C) (he : Evo (fun _ => False) w1.drew w2) (hs : SrcN N w 1 (.slice B l.length d) l.length (bys l)) :
    Mid N w (w2.alloc (.cells C2 56)) C C2 w2.heap.size B d l := by
  have hb := (h.evo ((Evo.refl _ w1).drew)).evo he
  have := heap_lt hb.b2
  exact ⟨hb.evo ((Evo.refl _ w2).alloc _), heap_alloc_new _ _, this, hs.evo0 (hb.ev.alloc _)⟩
theorem Mid.mkB {N : Nat → Prop} {w w1 w2 w3 : World} {C C2 : Array Value} {B : Option Addr} {d : Nat} {l : List Int} (h : Boxes w w1 C) (he : Evo (fun _ => False) (w1.drew.alloc (.cells z56 56)) w2) (he3 : Evo (fun k => k = w1.heap.size) w2 w3) (hg : w3.heap[w1.heap.size]? = some (.cells C2 56 (0, 0)))
    (hs : SrcN N w 1 (.slice B l.length d) l.length (bys l)) : Mid N w w3 C C2 w1.heap.size B d l := by
  have e12 : Evo (fun _ => False) w1 w2 := ((Evo.refl (fun _ => False) w1).drew.alloc _).two he
  have e13 : Evo (fun _ => False) w1 w3 := e12.trans he3 (fun k hk => .inr (by have : k = w1.heap.size := hk; omega))
  exact ⟨h.evo e13, hg, heap_lt h.b2, hs.evo0 (h.ev.two e13)⟩
theorem alloc56 (w : World) : (Instr.alloc 56 true (.tuple #[])).run Try.prog w = .ok (.pointer (some ⟨w.heap.size, 0, none⟩)) (w.alloc (.cells z56 56)) := by kernel_rfl
theorem store56_new (w : World) (C : Array Value) (hs : C.size = 10) (h1 : C.all (·.oneCell') = true) :
    (Instr.storeAt 56 (.pointer (some ⟨w.heap.size, 0, none⟩)) (.agg C)).run Try.prog (w.alloc (.cells z56 56)) = .ok () (w.alloc (.cells C 56)) :=
  run_storeAt_new w 56 _ _ (by rw [size56, hs]) (by rw [hs]; rfl) h1

set_option maxRecDepth 100000 in
set_option maxHeartbeats 2000000 in
theorem rread_walk (N : Nat → Prop) (w : World) (hN : ∀ k, N k → k < w.heap.size) (v : Value) (t : WS) (n : Nat) (h : RefT N w v t n) (hn : n ≤ 1000) (hb : Bd t) (a s : Int) :
    Calls Try.prog 41 #[v, .int .i64 a, .int .i64 s] w fun e w' => ∃ v' B d, e = .returned (.tuple #[v', .slice B (t.readB a s).length d]) ∧ RefT N w' v' (t.read a s) n ∧ SrcN N w' 1 (.slice B (t.readB a s).length d) (t.readB a s).length (bys (t.readB a s)) ∧ Evo (fun _ => False) w w' := by
  obtain ⟨S, E, L, T, cs, ce, cl, ct, sl, ll, rfl, hD, hll⟩ := h
  obtain ⟨C, hC⟩ : ∃ C, C = tcells t (.slice S 8 cs) (.slice E 2 ce) (.slice L ll.length cl) (.slice T t.trace.length ct) := ⟨_, rfl⟩
  have hB0 := Boxes.start w C
  have hth := fun wx => rthere_walk wx t S E L T 8 cs 2 ce ll.length cl t.trace.length ct a s
  rw [hC] at hB0
  unfold tcells z56 at hB0
  have HB0 := Lib.hid hB0
  clear hB0
  cases ht : t.there a s with
  | false =>
    have e1 : t.read a s = t := by simp [WS.read, ht]
    have e2 : t.readB a s = [] := by simp [WS.readB, ht]
    rw [e1, e2]
    rw [ht] at hth
    unfold tcells at hth ⊢
    have Hth := Lib.hid hth
    clear e1 e2 ht hth hC
    go_enter Try.func41, Try.ntmps41
    go_wp2_with fail
    refine (Hth.out _).mono ?_
    rintro e w1 ⟨rfl, ev1⟩
    have hB1 := HB0.out.evo ev1
    have hld := hB1.load rfl
    obtain ⟨w2, hst, hc2, ev2, _⟩ := hB1.put _ rfl (tcells_one t S E L T 8 cs 2 ce ll.length cl t.trace.length ct)
    unfold tcells at hst hc2
    have Hld := Lib.hid hld
    have Hst := Lib.hid hst
    have Hc2 := Lib.hid hc2
    clear hld hst hc2
    go_wp2_with (first | (refine wpList_run rfl (run_op_load rfl Hld.out) ?_) | (refine wpList_void rfl (run_op_store rfl Hst.out) ?_))
    refine bodyPost_ret (v := .tuple #[.agg #[.int .i64 t.blocks, .slice S 8 cs, .slice E 2 ce, .int .u64 t.counter, .slice L ll.length cl, .int .i64 t.reads, .bool t.armed, .int .i64 t.power, .bool t.dead, .slice T t.trace.length ct], .slice none 0 0]) (by simp [results, Try.results41, go_sem, Hc2.out]) rfl ⟨_, none, 0, rfl, ⟨S, E, L, T, cs, ce, cl, ct, sl, ll, rfl, hD.evo0 ev2, hll⟩, SrcN.nil _ _, ev2⟩
  | true =>
    have e1 : t.read a s = t.count.note 1 a s (t.told a s) := by simp [WS.read, ht]
    have e2 : t.readB a s = t.told a s := by simp [WS.readB, ht]
    rw [e1, e2]
    rw [ht] at hth
    obtain ⟨hd, ha0, ha1, hs01⟩ := there_of ht
    have ha3 : a ≤ 3 := by have := hD.blocks; omega
    have hs0 : 0 ≤ s := by omega
    have hs1 : s ≤ 1 := by omega
    obtain ⟨K, hK⟩ : ∃ K : Nat, (K : Int) = 2 * a + s := ⟨(2 * a + s).toNat, by omega⟩
    have hx := hD.sat a s ha0 (by omega) hs01
    rw [show (2 * a + s).toNat = K by omega] at hx
    have hw1 : IntKind.i64.wrap (2 * a) = 2 * a := by rw [IntKind.wrap_i64]; omega
    have hw2 : IntKind.i64.wrap (2 * a + s) = (K : Int) := by rw [IntKind.wrap_i64]; omega
    have hK8 : K < 8 := by omega
    have hKz : (K : Int) < 8 := by omega
    obtain ⟨tl, htl⟩ : ∃ l, t.told a s = l := ⟨_, rfl⟩
    have htold : (lastLie ll t.reads).getD (t.slots a s) = tl := by rw [hD.last, ← htl]; rfl
    have hlen9 : ll.length ≤ 900000 := by omega
    have HTold := Lib.hid htold
    have HW1 := Lib.hid hw1
    have HW2 := Lib.hid hw2
    rw [htl]
    unfold tcells at hth
    have Hth := Lib.hid hth
    have HC := Lib.hid hC
    have HK := Lib.hid hK
    clear e1 e2 ht hth hC htl htold hw1 hw2 hd hs01 hK
    unfold tcells
    go_enter Try.func41, Try.ntmps41
    go_wp2_with fail
    refine (Hth.out _).mono ?_
    rintro e w1 ⟨rfl, ev1⟩
    have hB1 := HB0.out.evo ev1
    obtain ⟨rb, ro, RB, rd', rfl, hKn, hnc, hcK0, hsrc⟩ := hD.slots.at hx
    have hcK := (hB1.ev.cell (World.block_lt_of_cell? _ _ hcK0) (fun hf => hf)).trans hcK0
    clear hcK0
    have k1 : w1.cell? ⟨w.heap.size, 1, none⟩ = some (.slice (some ⟨rb, ro, none⟩) 8 cs) := blk_cell hB1.b1 1
    go_wp2_with fail
    go_cut [8, 9] (fun s8 s9 wx => ∃ (g : Nat) (B : Option Addr) (d : Nat), s8 = .pointer (some ⟨g, 0, none⟩) ∧ s9 = .slice B tl.length d ∧ Mid N w wx (tcells t (.slice (some ⟨rb, ro, none⟩) 8 cs) (.slice E 2 ce) (.slice L ll.length cl) (.slice T t.trace.length ct)) (tcells t.count (.slice (some ⟨rb, ro, none⟩) 8 cs) (.slice E 2 ce) (.slice L ll.length cl) (.slice T t.trace.length ct)) g B d tl)
    case first =>
      have hw1 := HW1.out
      have hw2 := HW2.out
      refine wp_region_plan (fun w' => Boxes w w' (tcells t (.slice (some ⟨rb, ro, none⟩) 8 cs) (.slice E 2 ce) (.slice L ll.length cl) (.slice T t.trace.length ct)) ∧ w'.cell? ⟨w.heap.size, 1, none⟩ = some (.slice (some ⟨rb, ro, none⟩) 8 cs) ∧ w'.cell? ⟨rb, ro + K, none⟩ = some (.slice RB (t.slots a s).length rd')) (.rds [0, 1, 2, 3, 4, 5, 6, 7, 8] (.two 9 (.rds [10, 11, 12] (.act 13 (.act 14 (.rd 15 .done)))) 13 (.act 9 (.rds [10, 11, 12] (.act 14 (.rd 15 .done)))))) 16 (by kernel_rfl) (by kernel_rfl) (by rfl) (by kernel_rfl) (fun _ _ _ _ _ h => h) (⟨hB1.evo ((Evo.refl _ w1).drew), k1, hcK⟩) ?_
      try simp only [Plan.rds]
      apply plan_read
      · (simp only [List.getElem?_toArray, List.getElem?_cons_succ, List.getElem?_cons_zero]; rfl)
      · rfl
      · (intro w' hSw; exact run_op_load rfl (hSw.1.load rfl))
      simp only [Act.put, List.setIfInBounds_toArray, List.set_cons_zero, List.set_cons_succ]
      repeat
        first
        | (apply plan_read
           · (simp only [List.getElem?_toArray, List.getElem?_cons_succ, List.getElem?_cons_zero]; rfl)
           · rfl
           · (intro w' hSw; (first | subst hSw | (try dsimp only at hSw)); go_simp; (try go_bits); (try with_reducible rfl))
           simp only [Act.put, List.setIfInBounds_toArray, List.set_cons_zero, List.set_cons_succ])
        | (apply plan_pass
           · (simp only [List.getElem?_toArray, List.getElem?_cons_succ, List.getElem?_cons_zero]; rfl)
           · rfl
           simp only [Act.put, List.setIfInBounds_toArray, List.set_cons_zero, List.set_cons_succ])
      have hT := fun wx he => rtold_walk N wx t (some ⟨rb, ro, none⟩) E L T 8 cs 2 ce cl ct w he t.trace.length ll hD.lies hlen9 hb.reads0 (by have := hb.reads1; omega) (.slice RB (t.slots a s).length rd') (t.slots a s) hsrc
      rw [HTold.out] at hT
      have HT := Lib.hid hT
      clear hT
      have e1 : Evo (fun _ => False) w w1.drew := hB1.ev.drew
      have kk : ∀ wx, Evo (fun _ => False) w1.drew wx → Boxes w wx (tcells t (.slice (some ⟨rb, ro, none⟩) 8 cs) (.slice E 2 ce) (.slice L ll.length cl) (.slice T t.trace.length ct)) ∧ wx.cell? ⟨w.heap.size, 1, none⟩ = some (.slice (some ⟨rb, ro, none⟩) 8 cs) ∧ wx.cell? ⟨rb, ro + K, none⟩ = some (.slice RB (t.slots a s).length rd') := fun wx he =>
        ⟨(hB1.evo ((Evo.refl _ w1).drew)).evo he, (he.cell (World.block_lt_of_cell? w1 _ k1) (fun hf => hf)).trans k1, (he.cell (World.block_lt_of_cell? w1 _ hcK) (fun hf => hf)).trans hcK⟩
      have KK := Lib.hid kk
      clear kk
      refine plan_two ?_ ?_
      ·
        first | apply plan_act | apply plan_op
        · (simp only [List.getElem?_toArray, List.getElem?_cons_succ, List.getElem?_cons_zero]; rfl)
        · rfl
        refine wp_k (fun K hK => ?_)
        go_simp
        refine (HT.out _ e1).mono ?_
        rintro e w2 ⟨B, d, rfl, hsB, ev2⟩
        refine hK _ _ ⟨KK.out _ ev2, ?_⟩
        clear hK K
        try simp only [Act.put, List.setIfInBounds_toArray, List.set_cons_zero, List.set_cons_succ]
        repeat
          first
          | (apply plan_read
             · (simp only [List.getElem?_toArray, List.getElem?_cons_succ, List.getElem?_cons_zero]; rfl)
             · rfl
             · (intro w' hSw; (first | subst hSw | (try dsimp only at hSw)); go_simp; (try go_bits); (try with_reducible rfl))
             simp only [Act.put, List.setIfInBounds_toArray, List.set_cons_zero, List.set_cons_succ])
          | (apply plan_pass
             · (simp only [List.getElem?_toArray, List.getElem?_cons_succ, List.getElem?_cons_zero]; rfl)
             · rfl
             simp only [Act.put, List.setIfInBounds_toArray, List.set_cons_zero, List.set_cons_succ])
        first | apply plan_act | apply plan_op
        · (simp only [List.getElem?_toArray, List.getElem?_cons_succ, List.getElem?_cons_zero]; rfl)
        · rfl
        refine wp_val (run_op_alloc rfl (alloc56 w2)) ⟨KK.out _ (ev2.alloc _), ?_⟩
        try simp only [Act.put, List.setIfInBounds_toArray, List.set_cons_zero, List.set_cons_succ]
        first | apply plan_act | apply plan_op
        · (simp only [List.getElem?_toArray, List.getElem?_cons_succ, List.getElem?_cons_zero]; rfl)
        · rfl
        refine wp_void (run_op_store rfl (store56_new w2 (tcells t.count (.slice (some ⟨rb, ro, none⟩) 8 cs) (.slice E 2 ce) (.slice L ll.length cl) (.slice T t.trace.length ct)) rfl (tcells_one ..))) ⟨KK.out _ (ev2.alloc _), ?_⟩
        try simp only [Act.put, List.setIfInBounds_toArray, List.set_cons_zero, List.set_cons_succ]
        repeat
          first
          | (apply plan_read
             · (simp only [List.getElem?_toArray, List.getElem?_cons_succ, List.getElem?_cons_zero]; rfl)
             · rfl
             · (intro w' hSw; (first | subst hSw | (try dsimp only at hSw)); go_simp; (try go_bits); (try with_reducible rfl))
             simp only [Act.put, List.setIfInBounds_toArray, List.set_cons_zero, List.set_cons_succ])
          | (apply plan_pass
             · (simp only [List.getElem?_toArray, List.getElem?_cons_succ, List.getElem?_cons_zero]; rfl)
             · rfl
             simp only [Act.put, List.setIfInBounds_toArray, List.set_cons_zero, List.set_cons_succ])
        refine plan_done ?_
        go_wp2_with fail
        go_meet
        exact ⟨_, B, d, rfl, rfl, Mid.mkA hB1 ev2 hsB⟩
      ·
        first | apply plan_act | apply plan_op
        · (simp only [List.getElem?_toArray, List.getElem?_cons_succ, List.getElem?_cons_zero]; rfl)
        · rfl
        refine wp_val (run_op_alloc rfl (alloc56 w1.drew)) ⟨KK.out _ ((Evo.refl _ w1.drew).alloc _), ?_⟩
        try simp only [Act.put, List.setIfInBounds_toArray, List.set_cons_zero, List.set_cons_succ]
        first | apply plan_act | apply plan_op
        · (simp only [List.getElem?_toArray, List.getElem?_cons_succ, List.getElem?_cons_zero]; rfl)
        · rfl
        refine wp_k (fun K hK => ?_)
        go_simp
        refine (HT.out _ (e1.alloc _)).mono ?_
        rintro e w2 ⟨B, d, rfl, hsB, ev2⟩
        refine hK _ _ ⟨KK.out _ (((Evo.refl _ w1.drew).alloc _).two ev2), ?_⟩
        clear hK K
        try simp only [Act.put, List.setIfInBounds_toArray, List.set_cons_zero, List.set_cons_succ]
        have hg := (ev2.block w1.heap.size (by simp) (fun hf => hf)).trans (heap_alloc_new w1.drew (.cells z56 56))
        obtain ⟨w3, hst, hg3, ev3⟩ := store56 w2 w1.heap.size _ (tcells t.count (.slice (some ⟨rb, ro, none⟩) 8 cs) (.slice E 2 ce) (.slice L ll.length cl) (.slice T t.trace.length ct)) hg rfl rfl (tcells_one ..)
        have Hst := Lib.hid hst
        clear hst
        repeat
          first
          | (apply plan_read
             · (simp only [List.getElem?_toArray, List.getElem?_cons_succ, List.getElem?_cons_zero]; rfl)
             · rfl
             · (intro w' hSw; (first | subst hSw | (try dsimp only at hSw)); go_simp; (try go_bits); (try with_reducible rfl))
             simp only [Act.put, List.setIfInBounds_toArray, List.set_cons_zero, List.set_cons_succ])
          | (apply plan_pass
             · (simp only [List.getElem?_toArray, List.getElem?_cons_succ, List.getElem?_cons_zero]; rfl)
             · rfl
             simp only [Act.put, List.setIfInBounds_toArray, List.set_cons_zero, List.set_cons_succ])
        first | apply plan_act | apply plan_op
        · (simp only [List.getElem?_toArray, List.getElem?_cons_succ, List.getElem?_cons_zero]; rfl)
        · rfl
        refine wp_void (run_op_store rfl Hst.out) ⟨KK.out _ ((((Evo.refl _ w1.drew).alloc _).two ev2).trans ev3 (fun k hk => .inr (by have : k = w1.heap.size := hk; simp; omega))), ?_⟩
        try simp only [Act.put, List.setIfInBounds_toArray, List.set_cons_zero, List.set_cons_succ]
        repeat
          first
          | (apply plan_read
             · (simp only [List.getElem?_toArray, List.getElem?_cons_succ, List.getElem?_cons_zero]; rfl)
             · rfl
             · (intro w' hSw; (first | subst hSw | (try dsimp only at hSw)); go_simp; (try go_bits); (try with_reducible rfl))
             simp only [Act.put, List.setIfInBounds_toArray, List.set_cons_zero, List.set_cons_succ])
          | (apply plan_pass
             · (simp only [List.getElem?_toArray, List.getElem?_cons_succ, List.getElem?_cons_zero]; rfl)
             · rfl
             simp only [Act.put, List.setIfInBounds_toArray, List.set_cons_zero, List.set_cons_succ])
        refine plan_done ?_
        go_wp2_with fail
        go_meet
        exact ⟨_, B, d, rfl, rfl, Mid.mkB hB1 ev2 ev3 hg3 hsB⟩
    case rest =>
      obtain ⟨g, B, d, rfl, rfl, hM⟩ := hcut
      have hldg := load56 _ g _ hM.b3 rfl
      have hN4 := fun (wx : World) (he : Evo (fun _ => False) w wx) k hk => Nat.lt_of_lt_of_le (hN k hk) he.size
      have hnote := rnote_walk N _ t.count (some ⟨rb, ro, none⟩) E L T 8 cs 2 ce ll.length cl ct (hN4 _ hM.box.ev) (hD.trace.evo0 hM.box.ev) hb.tlen 1 a s (.slice B tl.length d) tl hM.src
      have Hldg := Lib.hid hldg
      clear hldg
      go_wp2_with (refine wpList_run rfl (run_op_load rfl Hldg.out) ?_)
      refine hnote.mono ?_
      rintro e w4 ⟨T', ct', rfl, hT', hfr, ev4⟩
      have hB4 := hM.box.evo ev4
      obtain ⟨w5, hst, hc5, ev5, ev45⟩ := hB4.put _ rfl (tcells_one (t.count.note 1 a s tl) (some ⟨rb, ro, none⟩) E L T' 8 cs 2 ce ll.length cl (t.count.note 1 a s tl).trace.length ct')
      have hTf : TrN N w5 (.slice T' (t.count.note 1 a s tl).trace.length ct') (t.count.note 1 a s tl).trace := hT'.keepZ ev45 hB4.b2 (fun ad e => by have := (hfr ad e).1; have := heap_lt hM.box.b2; omega)
      have hsf : SrcN N w5 1 (.slice B tl.length d) tl.length (bys tl) := (hM.src.evo0 ev4).keepZ ev45 hB4.b2
      have Hst := Lib.hid hst
      have Hc5 := Lib.hid hc5
      clear hst hc5
      go_wp2_with (refine wpList_void rfl (run_op_store rfl Hst.out) ?_)
      refine bodyPost_ret (v := .tuple #[.agg (tcells (t.count.note 1 a s tl) (.slice (some ⟨rb, ro, none⟩) 8 cs) (.slice E 2 ce) (.slice L ll.length cl) (.slice T' (t.count.note 1 a s tl).trace.length ct')), .slice B tl.length d]) (by simp [results, Try.results41, go_sem, Hc5.out, tcells]) rfl
        ⟨_, B, d, rfl, ⟨_, E, L, T', cs, ce, cl, ct', sl, ll, rfl, ⟨hD.slots.evo0 ev5, hD.slen, hD.sat, hD.seals.evo0 ev5, hD.lies.evo0 ev5, hD.last, hTf, hD.blocks, (hD.evo0 ev5).kS, (hD.evo0 ev5).kE, (hD.evo0 ev5).kL, fun ad e => (hfr ad e).2.evo ev45 (fun hf => (hfr ad e).2.ne ⟨_, _, hB4.b2⟩ (by decide) hf)⟩, hll⟩, hsf, ev5⟩

end Go.Proofs.Ytnndkameadlkdaa
