/- What a world of package world is, as data; how it lies in memory; what its operations make of it. -/
import Derived.Test.YtnndkameadlkdaaW4
namespace Go.Proofs.Ytnndkameadlkdaa
open Go.RowKit

/-! ### the data -/
structure Tr where
  kind : Int
  at_ : Int
  slot : Int
  bytes : List Int

structure WS where
  blocks : Int
  counter : Int
  reads : Int
  armed : Bool
  power : Int
  dead : Bool
  slots : Int → Int → List Int
  seals : Int → List Int
  lies : Int → Option (List Int)
  trace : List Tr

namespace WS
def new (n : Int) : WS := { blocks := max 0 (min n 4096), counter := 0, reads := 0, armed := false, power := 0, dead := false, slots := fun _ _ => zeros272, seals := fun _ => [], lies := fun _ => none, trace := [] }
def note (t : WS) (k a s : Int) (l : List Int) : WS := { t with trace := t.trace ++ [⟨k, a, s, l⟩] }
def there (t : WS) (a s : Int) : Bool := decide (t.dead = false ∧ 0 ≤ a ∧ a < t.blocks ∧ (s = 0 ∨ s = 1))
def sealed (t : WS) (i : Int) : Bool := decide (t.dead = false ∧ (i = 0 ∨ i = 1))
/-- what a read of the bytes l tells -/
def says (t : WS) (l : List Int) : List Int := (t.lies t.reads).getD l
def count (t : WS) : WS := { t with reads := t.reads + 1 }
def told (t : WS) (a s : Int) : List Int := t.says (t.slots a s)
def read (t : WS) (a s : Int) : WS := if t.there a s then t.count.note 1 a s (t.told a s) else t
def readB (t : WS) (a s : Int) : List Int := if t.there a s then t.told a s else []
def look (t : WS) (i : Int) : WS := if t.sealed i then t.count.note 3 i 0 (t.says (t.seals i)) else t
def lookB (t : WS) (i : Int) : List Int := if t.sealed i then t.says (t.seals i) else []
def takesN (t : WS) (n : Int) : Int := if t.armed then min n t.power else n
def takes (t : WS) (n : Int) : WS := if t.armed then { t with power := t.power - min n t.power, dead := decide (min n t.power < n) } else t
def pad (l : List Int) : List Int := (padTo l 272).take 272
def over (old fresh : List Int) (k : Int) : List Int := fresh.take k.toNat ++ old.drop k.toNat
def setSlot (t : WS) (a s : Int) (l : List Int) : WS := { t with slots := fun a' s' => if a' = a ∧ s' = s then l else t.slots a' s' }
def setSeal (t : WS) (i : Int) (l : List Int) : WS := { t with seals := fun j => if j = i then l else t.seals j }
def write (t : WS) (a s : Int) (l : List Int) : WS :=
  if t.there a s then ((t.note 2 a s l).takes 272).setSlot a s (over (t.slots a s) (pad l) (t.takesN 272)) else t
def writeB (t : WS) (a s : Int) : Bool := t.there a s && !(t.takes 272).dead
def sealTo (old l : List Int) (k : Int) : List Int := l.take k.toNat ++ (if k < l.length ∧ k < old.length then old.drop k.toNat else [])
def sealing (t : WS) (i : Int) (l : List Int) : WS :=
  if t.sealed i then ((t.note 4 i 0 l).takes l.length).setSeal i (sealTo (t.seals i) l (t.takesN l.length)) else t
def sealB (t : WS) (i : Int) (l : List Int) : Bool := t.sealed i && !(t.takes l.length).dead
def count64 (t : WS) : Int := if t.dead then 0 else t.counter
def bumps (t : WS) : Bool := decide (t.dead = false ∧ t.counter ≠ 18446744073709551615)
def bump (t : WS) : WS :=
  if t.bumps then (if t.takesN 1 = 0 then t.takes 1 else { (t.takes 1) with counter := t.counter + 1 }.note 5 0 0 []) else t
def bumpB (t : WS) : Bool := t.bumps && decide (t.takesN 1 ≠ 0)
def lie (t : WS) (n : Int) (l : List Int) : WS := { t with lies := fun m => if m = n then some l else t.lies m }
def arm (t : WS) (n : Int) : WS := if t.dead then t else { t with armed := true, power := max 0 (min n 1000000) }
def restart (t : WS) : WS := { t with armed := false, dead := false }
def set (t : WS) (n : Int) : WS := { t with counter := n }
end WS

/-! ### the representation -/
def Okb (l : List Int) : Prop := l.length ≤ 100000 ∧ Byt l
def wcells (t : WS) (ms ml : Nat) (s0 s1 tv : Value) : Array Value :=
  #[.int .i64 t.blocks, .map (some ms), s0, s1, .int .u64 t.counter, .map (some ml), .int .i64 t.reads, .bool t.armed, .int .i64 t.power, .bool t.dead, tv]

/-- The slots: a map of pointers to rows. -/
structure SlotsR (w : World) (F : Nat → Prop) (ms : Nat) (M : Value → Option Value) (S : Int → Int → List Int) : Prop where
  map : IsMap w ms PlaceKey M
  none_ : ∀ a s, M (plk a s) = none → S a s = zeros272
  some_ : ∀ a s v, M (plk a s) = some v → ∃ g, v = .pointer (some ⟨g, 0, none⟩) ∧ F g ∧ w.heap[g]? = some (.cells (bys (S a s)).toArray 96 (0, 0))
  inj : ∀ a s a' s' v, M (plk a s) = some v → M (plk a' s') = some v → a = a' ∧ s = s'
  len : ∀ a s, (S a s).length = 272
  byt : ∀ a s, Byt (S a s)

structure LiesR (w : World) (F : Nat → Prop) (ml : Nat) (L : Value → Option Value) (l : Int → Option (List Int)) : Prop where
  map : IsMap w ml (IntKey .i64) L
  none_ : ∀ n, l n = none → L (.int .i64 n) = none
  some_ : ∀ n x, l n = some x → ∃ v, L (.int .i64 n) = some v ∧ Own w F 5 v x ∧ Okb x

def trCells (ts : List Tr) (bs : List Value) : List Value := (ts.zip bs).flatMap fun (x, v) => [.int .i64 x.kind, .int .i64 x.at_, .int .i64 x.slot, v]

structure TraceR (w : World) (F : Nat → Prop) (tv : Value) (ts : List Tr) (bs : List Value) : Prop where
  row : w.ownsRow 0 52 4 tv ts.length (trCells ts bs)
  mine : ∀ g, tv.ownBlock = some g → F g
  len : bs.length = ts.length
  own : ∀ (i : Nat) (x : Tr) (v : Value), ts[i]? = some x → bs[i]? = some v → Own w F 5 v x.bytes
  okb : ∀ x ∈ ts, Okb x.bytes

structure RepG (w : World) (b : Nat) (t : WS) (F : Nat → Prop) (ms ml : Nat) (s0 s1 tv : Value) (M L : Value → Option Value) (bs : List Value) : Prop where
  cell : w.heap[b]? = some (.cells (wcells t ms ml s0 s1 tv) 73 (0, 0))
  fb : F b
  fms : F ms
  fml : F ml
  ne : ms ≠ ml
  lt : ∀ k, F k → k < w.heap.size
  slots : SlotsR w F ms M t.slots
  lies : LiesR w F ml L t.lies
  seal0 : Own w F 5 s0 (t.seals 0)
  seal1 : Own w F 5 s1 (t.seals 1)
  trace : TraceR w F tv t.trace bs
  ok0 : Okb (t.seals 0)
  ok1 : Okb (t.seals 1)
  blocks0 : 0 ≤ t.blocks
  blocks1 : t.blocks ≤ 4096
  counter0 : 0 ≤ t.counter
  counter1 : t.counter ≤ 18446744073709551615
  reads0 : 0 ≤ t.reads
  reads1 : t.reads ≤ 950000
  power0 : 0 ≤ t.power
  power1 : t.power ≤ 1000000
  small : t.trace.length ≤ 900000

def Rep (w : World) (b : Nat) (t : WS) (F : Nat → Prop) : Prop := (∃ ms ml s0 s1 tv M L bs, RepG w b t F ms ml s0 s1 tv M L bs) ∧ t.reads ≤ t.trace.length

/-- What an operation leaves: the new data, in blocks of its own and new ones; nothing else has turned. -/
structure Goes (w : World) (F : Nat → Prop) (b : Nat) (t' : WS) (w' : World) (F' : Nat → Prop) : Prop where
  rep : Rep w' b t' F'
  evo : Evo F w w'
  new : ∀ k, F' k → F k ∨ w.heap.size ≤ k
  old : ∀ k, F k → F' k

theorem Goes.trans {w w1 w2 : World} {F F1 F2 : Nat → Prop} {b : Nat} {t1 t2 : WS} (h : Goes w F b t1 w1 F1) (k : Goes w1 F1 b t2 w2 F2) : Goes w F b t2 w2 F2 where
  rep := k.rep
  evo := h.evo.trans k.evo h.new
  new x hx := by
    rcases k.new x hx with h1 | h1
    · exact h.new x h1
    · exact .inr (Nat.le_trans h.evo.size h1)
  old x hx := k.old x (h.old x hx)

/-! ### what keeps the parts -/
section
variable {w w' : World} {F F' : Nat → Prop} {ms ml : Nat} {M L : Value → Option Value} {S : Int → Int → List Int} {l : Int → Option (List Int)} {tv : Value} {ts : List Tr} {bs : List Value}

theorem SlotsR.keep (h : SlotsR w F ms M S) (hm : w'.heap[ms]? = w.heap[ms]?) (hs : SameKind 96 w w') (hF : ∀ k, F k → F' k) : SlotsR w' F' ms M S where
  map := h.map.same hm
  none_ := h.none_
  some_ a s v hv := by
    obtain ⟨g, h1, h2, h3⟩ := h.some_ a s v hv
    exact ⟨g, h1, hF g h2, hs _ _ _ h3⟩
  inj := h.inj
  len := h.len
  byt := h.byt

theorem LiesR.keep (h : LiesR w F ml L l) (hm : w'.heap[ml]? = w.heap[ml]?) (hs : SameKind 5 w w') (hF : ∀ k, F k → F' k) : LiesR w' F' ml L l where
  map := h.map.same hm
  none_ := h.none_
  some_ n x hx := by
    obtain ⟨v, h1, h2, h3⟩ := h.some_ n x hx
    exact ⟨v, h1, h2.same hs hF, h3⟩

theorem TraceR.keep (h : TraceR w F tv ts bs) (h52 : SameKind 52 w w') (hs : SameKind 5 w w') (hF : ∀ k, F k → F' k) : TraceR w' F' tv ts bs where
  row := ownsRow_same h.row h52
  mine g hg := hF g (h.mine g hg)
  len := h.len
  own i x v hx hv := (h.own i x v hx hv).same hs hF
  okb := h.okb
end

/-- A world that lies apart stays as it is. -/
theorem RepG.apart {w w' : World} {b : Nat} {t : WS} {F F0 : Nat → Prop} {ms ml : Nat} {s0 s1 tv : Value} {M L : Value → Option Value} {bs : List Value} (h : RepG w b t F ms ml s0 s1 tv M L bs) (he : Evo F0 w w') (hd : ∀ k, F k → ¬ F0 k) : RepG w' b t F ms ml s0 s1 tv M L bs := by
  have hb : ∀ k, F k → w'.heap[k]? = w.heap[k]? := fun k hk => he.block k (h.lt k hk) (hd k hk)
  have own : ∀ {v : Value} {l : List Int}, Own w F 5 v l → Own w' F 5 v l := by
    intro v l ho
    refine ⟨⟨ho.1.1, ?_⟩, ho.2⟩
    rcases ho.1.2 with h1 | ⟨g, cap, cur, rfl, h1, h2, h3⟩
    · exact Or.inl h1
    · exact Or.inr ⟨g, cap, cur, rfl, h1, (hb g (ho.2 g rfl)).trans h2, h3⟩
  exact {
    cell := (hb b h.fb).trans h.cell
    fb := h.fb, fms := h.fms, fml := h.fml, ne := h.ne
    lt := fun k hk => Nat.lt_of_lt_of_le (h.lt k hk) he.size
    slots := { map := h.slots.map.same (hb ms h.fms), none_ := h.slots.none_, inj := h.slots.inj, len := h.slots.len, byt := h.slots.byt
               some_ := fun a s v hv => by
                 obtain ⟨g, h1, h2, h3⟩ := h.slots.some_ a s v hv
                 exact ⟨g, h1, h2, (hb g h2).trans h3⟩ }
    lies := { map := h.lies.map.same (hb ml h.fml), none_ := h.lies.none_
              some_ := fun n x hx => by
                obtain ⟨v, h1, h2, h3⟩ := h.lies.some_ n x hx
                exact ⟨v, h1, own h2, h3⟩ }
    seal0 := own h.seal0
    seal1 := own h.seal1
    trace := { row := by
                 refine ⟨h.trace.row.1, ?_⟩
                 rcases h.trace.row.2 with h1 | ⟨g, cap, cur, rfl, h1, h2, h3⟩
                 · exact Or.inl h1
                 · exact Or.inr ⟨g, cap, cur, rfl, h1, (hb g (h.trace.mine g rfl)).trans h2, h3⟩
               mine := h.trace.mine, len := h.trace.len, okb := h.trace.okb
               own := fun i x v hx hv => own (h.trace.own i x v hx hv) }
    ok0 := h.ok0, ok1 := h.ok1, blocks0 := h.blocks0, blocks1 := h.blocks1, counter0 := h.counter0, counter1 := h.counter1
    reads0 := h.reads0, reads1 := h.reads1, power0 := h.power0, power1 := h.power1, small := h.small }

theorem Rep.apart {w w' : World} {b : Nat} {t : WS} {F F0 : Nat → Prop} (h : Rep w b t F) (he : Evo F0 w w') (hd : ∀ k, F k → ¬ F0 k) : Rep w' b t F := by
  obtain ⟨⟨ms, ml, s0, s1, tv, M, L, bs, h⟩, hr⟩ := h
  exact ⟨⟨ms, ml, s0, s1, tv, M, L, bs, h.apart he hd⟩, hr⟩

/-! ### the cells of a world -/
theorem blk_cell {w : World} {b : Nat} {t : TypeId} {cs : Array Value} (h : w.heap[b]? = some (.cells cs t (0, 0))) (i : Nat) : w.cell? ⟨b, i, none⟩ = cs[i]? := cell_of_row w b i cs t (0, 0) h
theorem blk_frozen {w : World} {b : Nat} {t : TypeId} {cs : Array Value} (h : w.heap[b]? = some (.cells cs t (0, 0))) (i : Nat) : w.frozen? ⟨b, i, none⟩ = false := by simp [World.frozen?, h]
theorem blk_set {w : World} {b : Nat} {t : TypeId} {cs : Array Value} (h : w.heap[b]? = some (.cells cs t (0, 0))) (i : Nat) (u : Value) : (w.setCell ⟨b, i, none⟩ u).heap[b]? = some (.cells (cs.setIfInBounds i u) t (0, 0)) := by
  simp [World.setCell, Array.getElem?_modify, h]

end Go.Proofs.Ytnndkameadlkdaa
