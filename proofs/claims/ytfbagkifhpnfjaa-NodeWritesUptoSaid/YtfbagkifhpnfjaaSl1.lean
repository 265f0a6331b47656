/- The values, objects and heaps of a separation logic over the kit's `Code.wp`: definitions, and how they last from world to world. No condition. -/
import Derived.Calls
import Derived.Below
namespace Go.Sl
open Go

/-- A frozen value: memory that it leads to is never written any more. What stands in one cell. -/
inductive FV where
  | int (k : IntKind) (n : Int)
  | bool (b : Bool)
  | str (s : List UInt8)
  | sl (sz : Nat) (nil : Bool) (len : Nat) (get : Nat → List FV)
  | sl0 (sz : Nat)
  | fptr (cs : List FV)
  | fn (f : Fn)
  | nilfn
  | nilptr
  | nilmap
  | nilif
  | iface1 (t : TypeId) (x : FV)
  | ifaceA (t : TypeId) (cs : List FV)

/-- A value: what a slot of a frame holds, or a cell of an object. -/
inductive AV where
  | fv (x : FV)
  | ptr (n sz i j : Nat)
  | sl (n sz i len : Nat) (cap : Option Nat)
  | map (n : Nat)
  | ref (n : Nat)
  | fn (f : Fn) (first captured : List AV)
  | iface (t : TypeId) (x : AV)
  | agg (cs : List AV)
  | tuple (vs : List AV)
  | osl (sz len : Nat) (get : Nat → List AV)
  | optr (cs : List AV)
  | row (n : Nat) (nil : Bool) (len : Nat)
  | ifb (c : Bool) (x : AV)
  | junk

/-- What a block holds. -/
inductive AObj where
  | arr (sz len : Nat) (get : Nat → List AV) (tight : Bool)
  | map (es : List (AV × AV))
  | row (sz : Nat) (nil : Bool) (els : List (List AV))
  | strIter (s : List UInt8) (pos : Nat)
  | mapIter (m : Nat) (since : Nat) (seen : List Nat) (stepped : Nat)

abbrev Heap := List (Nat × AObj)
abbrev Frame := List (Nat × AV)

inductive FR (w : World) (F : Nat → Prop) : FV → Value → Prop
  | int (k : IntKind) (n : Int) : FR w F (.int k n) (.int k n)
  | bool (b : Bool) : FR w F (.bool b) (.bool b)
  | str (s : List UInt8) : FR w F (.str s) (.string ⟨s.toArray⟩)
  | slnil (sz : Nat) (g : Nat → List FV) : FR w F (.sl sz true 0 g) (.slice none 0 0)
  | sl0 (sz : Nat) (a : Addr) : FR w F (.sl0 sz) (.slice (some a) 0 0)
  | sl (sz len : Nat) (g : Nat → List FV) (a : Addr) (c : Nat) (vs : Nat → Nat → Value) (hc : len ≤ c)
      (hsz : ∀ i, i < len → (g i).length = sz)
      (hcell : ∀ i j x, i < len → (g i)[j]? = some x → F a.block ∧ w.cell? ((a.add (i * sz)).add j) = some (vs i j))
      (hval : ∀ i j x, i < len → (g i)[j]? = some x → FR w F x (vs i j)) : FR w F (.sl sz false len g) (.slice (some a) len c)
  | fptr (cs : List FV) (a : Addr) (vs : Nat → Value)
      (hcell : ∀ j x, cs[j]? = some x → F a.block ∧ w.cell? (a.add j) = some (vs j))
      (hval : ∀ j x, cs[j]? = some x → FR w F x (vs j)) : FR w F (.fptr cs) (.pointer (some a))
  | fn (f : Fn) : FR w F (.fn f) (.func f #[] #[])
  | nilfn : FR w F .nilfn .nilFunc
  | nilptr : FR w F .nilptr (.pointer none)
  | nilmap : FR w F .nilmap (.map none)
  | nilif : FR w F .nilif .nilIface
  | iface1 (t : TypeId) (x : FV) (v : Value) (h : FR w F x v) : FR w F (.iface1 t x) (.iface t v)
  | ifaceA (t : TypeId) (cs : List FV) (vs : Array Value) (hl : cs.length = vs.size)
      (hval : ∀ j x, cs[j]? = some x → FR w F x (vs.getD j undef)) : FR w F (.ifaceA t cs) (.iface t (.agg vs))

/-- A value of a slot: it owns nothing. ρ: where the named objects lie; N: names below it are used. -/
inductive VR (w : World) (F : Nat → Prop) (ρ : Nat → Nat) (N : Nat) : AV → Value → Prop
  | fv (x : FV) (v : Value) (h : FR w F x v) : VR w F ρ N (.fv x) v
  | ptr (n sz i j : Nat) (h : n < N) : VR w F ρ N (.ptr n sz i j) (.pointer (some ⟨ρ n, i * sz + j, none⟩))
  | sl (n sz i len : Nat) (cap : Option Nat) (a : Addr) (c : Nat) (h : n < N) (hl : len ≤ c) (hc : ∀ k, cap = some k → k = c)
      (ha : 0 < c → a = ⟨ρ n, i * sz, none⟩) : VR w F ρ N (.sl n sz i len cap) (.slice (some a) len c)
  | map (n : Nat) (h : n < N) : VR w F ρ N (.map n) (.map (some (ρ n)))
  | ref (n : Nat) (h : n < N) : VR w F ρ N (.ref n) (.pointer (some ⟨ρ n, 0, none⟩))
  | fn (f : Fn) (first captured : List AV) (fs cs : Array Value) (hf : first.length = fs.size) (hc : captured.length = cs.size)
      (hfv : ∀ j x, first[j]? = some x → VR w F ρ N x (fs.getD j undef))
      (hcv : ∀ j x, captured[j]? = some x → VR w F ρ N x (cs.getD j undef)) : VR w F ρ N (.fn f first captured) (.func f fs cs)
  | iface (t : TypeId) (x : AV) (v : Value) (h : VR w F ρ N x v) : VR w F ρ N (.iface t x) (.iface t v)
  | agg (cs : List AV) (vs : Array Value) (hl : cs.length = vs.size)
      (hval : ∀ j x, cs[j]? = some x → VR w F ρ N x (vs.getD j undef)) : VR w F ρ N (.agg cs) (.agg vs)
  | tuple (cs : List AV) (vs : Array Value) (hl : cs.length = vs.size)
      (hval : ∀ j x, cs[j]? = some x → VR w F ρ N x (vs.getD j undef)) : VR w F ρ N (.tuple cs) (.tuple vs)
  | rowNil (n : Nat) (h : n + 1 < N) : VR w F ρ N (.row n true 0) (.slice none 0 0)
  | row (n len : Nat) (h : n + 1 < N) : VR w F ρ N (.row n false len) (.slice (some ⟨ρ n, 0, none⟩) len (ρ (n + 1)))
  | ifb (c : Bool) (x : AV) (v : Value) (h : c = true → VR w F ρ N x v) (hn : c = false → v = undef) : VR w F ρ N (.ifb c x) v
  | junk (v : Value) : VR w F ρ N .junk v

/-- A block that may be written wherever it has cells. -/
def Free (c : Array Value) (fz : Nat × Nat) : Prop := ∀ o, o < c.size → ¬ (fz.1 ≤ o ∧ o < fz.2)

/-- All the blocks of a double row of lists of blocks. -/
def gather (sz len : Nat) (Bs : Nat → Nat → List Nat) : List Nat :=
  (List.range len).flatMap fun i => (List.range sz).flatMap fun j => Bs i j

/-- A cell of an object: it may own blocks (the list). -/
inductive CR (w : World) (F : Nat → Prop) (ρ : Nat → Nat) (N : Nat) : AV → Value → List Nat → Prop
  | val (x : AV) (v : Value) (h : VR w F ρ N x v) : CR w F ρ N x v []
  | osl (sz len : Nat) (g : Nat → List AV) (b k : Nat) (c : Array Value) (ty : TypeId) (fz : Nat × Nat) (vs : Nat → Nat → Value) (Bs : Nat → Nat → List Nat)
      (hb : w.heap[b]? = some (.cells c ty fz)) (hfree : Free c fz) (hlen : len ≤ k) (hsize : c.size = k * sz)
      (hsz : ∀ i, i < len → (g i).length = sz)
      (hcell : ∀ i j x, i < len → (g i)[j]? = some x → c[i * sz + j]? = some (vs i j))
      (hval : ∀ i j x, i < len → (g i)[j]? = some x → CR w F ρ N x (vs i j) (Bs i j)) :
      CR w F ρ N (.osl sz len g) (.slice (some ⟨b, 0, none⟩) len k) (b :: gather sz len Bs)
  | optr (cs : List AV) (b : Nat) (c : Array Value) (ty : TypeId) (fz : Nat × Nat) (vs : Nat → Value) (Bs : Nat → List Nat)
      (hb : w.heap[b]? = some (.cells c ty fz)) (hfree : Free c fz) (hsize : c.size = cs.length)
      (hcell : ∀ j x, cs[j]? = some x → c[j]? = some (vs j))
      (hval : ∀ j x, cs[j]? = some x → CR w F ρ N x (vs j) (Bs j)) :
      CR w F ρ N (.optr cs) (.pointer (some ⟨b, 0, none⟩)) (b :: (List.range cs.length).flatMap Bs)

/-- An object and the blocks that it owns. -/
inductive OR (w : World) (F : Nat → Prop) (ρ : Nat → Nat) (N : Nat) : Nat → AObj → List Nat → Prop
  | arr (n sz len : Nat) (g : Nat → List AV) (tight : Bool) (c : Array Value) (ty : TypeId) (fz : Nat × Nat) (vs : Nat → Nat → Value) (Bs : Nat → Nat → List Nat)
      (hn : n < N) (hb : w.heap[ρ n]? = some (.cells c ty fz)) (hfree : Free c fz) (hsize : len * sz ≤ c.size) (ht : tight = true → c.size = len * sz)
      (hsz : ∀ i, i < len → (g i).length = sz)
      (hcell : ∀ i j x, i < len → (g i)[j]? = some x → c[i * sz + j]? = some (vs i j))
      (hval : ∀ i j x, i < len → (g i)[j]? = some x → CR w F ρ N x (vs i j) (Bs i j)) :
      OR w F ρ N n (.arr sz len g tight) (ρ n :: gather sz len Bs)
  | map (n : Nat) (es : List (AV × AV)) (ents : Array MapEntry) (clock : Nat) (hn : n < N)
      (hb : w.heap[ρ n]? = some (.map ents clock)) (hl : es.length = ents.size)
      (hborn : ∀ e ∈ ents, e.born < clock)
      (hnd : (ents.toList.map (·.born)).Nodup)
      (hval : ∀ (j : Nat) (x : AV × AV) (e : MapEntry), es[j]? = some x → ents[j]? = some e → VR w F ρ N x.1 e.key ∧ VR w F ρ N x.2 e.val) :
      OR w F ρ N n (.map es) [ρ n]
  | rowNil (n sz : Nat) (h : n + 1 < N) : OR w F ρ N n (.row sz true []) []
  | row (n sz : Nat) (els : List (List AV)) (c : Array Value) (ty : TypeId) (fz : Nat × Nat) (vs : Nat → Nat → Value) (Bs : Nat → Nat → List Nat) (h : n + 1 < N)
      (hb : w.heap[ρ n]? = some (.cells c ty fz)) (hfree : Free c fz) (hlen : els.length ≤ ρ (n + 1)) (hsize : c.size = ρ (n + 1) * sz) (hmax : ρ (n + 1) ≤ maxLen)
      (hsz : ∀ (i : Nat) (l : List AV), els[i]? = some l → l.length = sz)
      (hcell : ∀ (i j : Nat) (l : List AV) x, els[i]? = some l → l[j]? = some x → c[i * sz + j]? = some (vs i j))
      (hval : ∀ (i j : Nat) (l : List AV) x, els[i]? = some l → l[j]? = some x → CR w F ρ N x (vs i j) (Bs i j)) :
      OR w F ρ N n (.row sz false els) (ρ n :: gather sz els.length Bs)
  | strIter (n : Nat) (s : List UInt8) (pos : Nat) (hn : n < N) (hb : w.heap[ρ n]? = some (.stringIter ⟨s.toArray⟩ pos)) : OR w F ρ N n (.strIter s pos) [ρ n]
  | mapIter (n m since : Nat) (seen : List Nat) (stepped : Nat) (hn : n < N) (hm : m < N) (hb : w.heap[ρ n]? = some (.mapIter (some (ρ m)) since seen.toArray stepped)) :
      OR w F ρ N n (.mapIter m since seen stepped) [ρ n]

inductive HR (w : World) (F : Nat → Prop) (ρ : Nat → Nat) (N : Nat) : Heap → List Nat → Prop
  | nil : HR w F ρ N [] []
  | cons (n : Nat) (o : AObj) (H : Heap) (B Own : List Nat) (ho : OR w F ρ N n o B) (hH : HR w F ρ N H Own) : HR w F ρ N ((n, o) :: H) (B ++ Own)

end Go.Sl
