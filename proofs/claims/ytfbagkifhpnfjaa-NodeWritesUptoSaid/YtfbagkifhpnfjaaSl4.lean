/- A table of types, constants, operands; operations that only compute. No condition. -/
import Derived.Test.YtfbagkifhpnfjaaSl3
import Derived.Laws.Sem
import Derived.Laws.Strings
namespace Go.Sl
open Go
set_option linter.unusedVariables false
set_option linter.unusedSimpArgs false
variable {P : Program}

/-- A cell of a zero value. -/
inductive Z where
  | int (k : IntKind) (n : Int)
  | bool (b : Bool)
  | str (s : List UInt8)
  | nilsl | nilptr | nilmap | nilfn | nilif
  deriving DecidableEq

abbrev nilS : FV := .sl 0 true 0 fun _ => []

def Z.fv : Z → FV
  | .int k n => .int k n
  | .bool b => .bool b
  | .str s => .str s
  | .nilsl => nilS
  | .nilptr => .nilptr
  | .nilmap => .nilmap
  | .nilfn => .nilfn
  | .nilif => .nilif

def zOf : Value → Option Z
  | .int k n => some (.int k n)
  | .bool b => some (.bool b)
  | .string s => some (.str s.data.toList)
  | .slice none 0 0 => some .nilsl
  | .pointer none => some .nilptr
  | .map none => some .nilmap
  | .nilFunc => some .nilfn
  | .nilIface => some .nilif
  | _ => none

theorem string_eta (s : ByteArray) : (⟨s.data.toList.toArray⟩ : ByteArray) = s := by cases s; simp

theorem zOf_ok {v : Value} {z : Z} (h : zOf v = some z) (w : World) (F : Nat → Prop) : FR w F z.fv v := by
  unfold zOf at h
  split at h <;> simp at h <;> subst h
  · exact .int ..
  · exact .bool ..
  · rename_i s
    have := FR.str (w := w) (F := F) s.data.toList
    rw [string_eta] at this
    exact this
  · exact .slnil ..
  · exact .nilptr
  · exact .nilmap
  · exact .nilfn
  · exact .nilif

/-- A field: its first cell, its cells, its type, whether it has no name. -/
structure FD where
  off : Nat
  size : Nat
  ty : TypeId
  blank : Bool
  deriving DecidableEq

inductive TK where
  | bool | str | func | other
  | int (k : IntKind)
  | slice (e : TypeId)
  | arr (n : Nat) (e : TypeId)
  | ptr (e : TypeId)
  | map (k e : TypeId)
  | struct (fs : List FD)
  | iface
  deriving DecidableEq

def TK.agg : TK → Bool
  | .arr .. | .struct _ => true
  | _ => false

structure TD where
  kind : TK
  size : Nat
  bytes : Nat
  zero : Option (Bool × List Z)
  guard : Bool
  stood : Bool
  deriving DecidableEq

def kindOf (P : Program) : TypeDesc → Option TK
  | .bool => some .bool
  | .int k => some (.int k)
  | .string => some .str
  | .slice e => some (.slice e)
  | .array n e => some (.arr n e)
  | .pointer e => some (.ptr e)
  | .map k e => some (.map k e)
  | .func .. => some .func
  | .interface _ => some .iface
  | .struct fs => (fs.toList.mapM fun f => (P.info? f.type).map fun i => (⟨f.offset, i.size, f.type, f.name == "_"⟩ : FD)).map .struct
  | _ => some .other

def zerosOf (v : Value) : Option (Bool × List Z) := (v.cells.toList.mapM zOf).map fun l => ((match v with | .agg _ => true | _ => false), l)

def tabOf (P : Program) (t : TypeId) : Option TD :=
  match P.info? t, P.underlying t with
  | some i, some d => (kindOf P d).map fun k => { kind := k, size := i.size, bytes := i.bytes, zero := i.zero.bind zerosOf, guard := P.eqGuardType P.depth t, stood := P.stoodInHeld t }
  | _, _ => none

/-- A table tells the truth. -/
def TabOk (P : Program) (tab : TypeId → Option TD) : Prop := ∀ t d, tab t = some d → tabOf P t = some d

theorem tabOf_inv {t : TypeId} {d : TD} (h : tabOf P t = some d) : ∃ i desc, P.info? t = some i ∧ P.underlying t = some desc ∧ kindOf P desc = some d.kind ∧
    i.size = d.size ∧ i.bytes = d.bytes ∧ i.zero.bind zerosOf = d.zero ∧ P.eqGuardType P.depth t = d.guard ∧ P.stoodInHeld t = d.stood := by
  unfold tabOf at h
  split at h
  · rename_i i desc hi hd
    cases hk : kindOf P desc with
    | none => simp [hk] at h
    | some k =>
      simp [hk] at h
      subst h
      exact ⟨i, desc, hi, hd, hk, rfl, rfl, rfl, rfl, rfl⟩
  · simp at h

section
variable {tab : TypeId → Option TD} (T : TabOk P tab) {t : TypeId} {d : TD} (ht : tab t = some d)
include T ht

theorem run_typeInfo' : ∃ i, P.info? t = some i ∧ (∀ w, (typeInfo t).run P w = .ok i w) ∧ i.size = d.size ∧ i.bytes = d.bytes ∧ i.zero.bind zerosOf = d.zero := by
  obtain ⟨i, desc, hi, _, _, h1, h2, h3, _⟩ := tabOf_inv (T t d ht)
  exact ⟨i, hi, fun w => by simp [typeInfo, hi], h1, h2, h3⟩

theorem run_sizeOf' : ∀ w, (sizeOf t).run P w = .ok d.size w := by
  obtain ⟨i, _, h, hs, _⟩ := run_typeInfo' T ht
  intro w
  simp [Go.sizeOf, h, hs]

theorem run_under : ∃ desc, P.underlying t = some desc ∧ (∀ w, (underlying t).run P w = .ok desc w) ∧ kindOf P desc = some d.kind := by
  obtain ⟨i, desc, hi, hd, hk, _⟩ := tabOf_inv (T t d ht)
  exact ⟨desc, hd, fun w => by simp [underlying, hd], hk⟩

theorem run_isAgg' : ∀ w, (isAgg t).run P w = .ok d.kind.agg w := by
  obtain ⟨desc, _, h, hk⟩ := run_under T ht
  intro w
  simp only [isAgg, Sem.run_bind, h, Result.andThen_ok]
  cases desc <;> simp [kindOf] at hk <;> first | (rw [← hk]; rfl) | (obtain ⟨_, _, hk⟩ := hk; rw [← hk]; rfl)

theorem run_zero {ag : Bool} {zs : List Z} (hz : d.zero = some (ag, zs)) : ∃ v, (∀ w, (zeroValue t).run P w = .ok v w) ∧ v.cells.toList.mapM zOf = some zs ∧ (ag = (match v with | .agg _ => true | _ => false)) := by
  obtain ⟨i, hi, h, _, _, hzz⟩ := run_typeInfo' T ht
  rw [hz] at hzz
  cases hv : i.zero with
  | none => simp [hv] at hzz
  | some v =>
    refine ⟨v, fun w => by simp [zeroValue, h, hv], ?_⟩
    rw [hv] at hzz
    simp only [Option.bind_some, zerosOf, Option.map_eq_some_iff] at hzz
    obtain ⟨l, hl, he⟩ := hzz
    simp only [Prod.mk.injEq] at he
    exact ⟨he.2 ▸ hl, he.1.symm⟩

end

theorem kind_slice {desc : TypeDesc} {e : TypeId} (h : kindOf P desc = some (.slice e)) : desc = .slice e := by
  cases desc <;> simp [kindOf] at h; rw [h]
theorem kind_arr {desc : TypeDesc} {n : Nat} {e : TypeId} (h : kindOf P desc = some (.arr n e)) : desc = .array n e := by
  cases desc <;> simp [kindOf] at h; rw [h.1, h.2]
theorem kind_ptr {desc : TypeDesc} {e : TypeId} (h : kindOf P desc = some (.ptr e)) : desc = .pointer e := by
  cases desc <;> simp [kindOf] at h; rw [h]
theorem kind_map {desc : TypeDesc} {k e : TypeId} (h : kindOf P desc = some (.map k e)) : desc = .map k e := by
  cases desc <;> simp [kindOf] at h; rw [h.1, h.2]
theorem kind_int {desc : TypeDesc} {k : IntKind} (h : kindOf P desc = some (.int k)) : desc = .int k := by
  cases desc <;> simp [kindOf] at h; rw [h]
theorem kind_str {desc : TypeDesc} (h : kindOf P desc = some .str) : desc = .string := by
  cases desc <;> simp [kindOf] at h; rfl
theorem kind_bool {desc : TypeDesc} (h : kindOf P desc = some .bool) : desc = .bool := by
  cases desc <;> simp [kindOf] at h; rfl
theorem kind_struct {desc : TypeDesc} {fs : List FD} (h : kindOf P desc = some (.struct fs)) :
    ∃ f, desc = .struct f ∧ f.toList.mapM (fun f => (P.info? f.type).map fun i => (⟨f.offset, i.size, f.type, f.name == "_"⟩ : FD)) = some fs := by
  cases desc <;> simp [kindOf] at h
  exact ⟨_, rfl, h⟩

/-- A constant. -/
def constFV : Value → Option FV
  | .int k n => some (.int k n)
  | .bool b => some (.bool b)
  | .string ⟨⟨l⟩⟩ => some (.str l)
  | .slice none 0 0 => some nilS
  | .pointer none => some .nilptr
  | .map none => some .nilmap
  | .nilFunc => some .nilfn
  | .nilIface => some .nilif
  | _ => none

theorem constFV_ok {v : Value} {z : FV} (h : constFV v = some z) (w : World) (F : Nat → Prop) : FR w F z v := by
  unfold constFV at h
  split at h <;> simp at h <;> subst h
  · exact .int ..
  · exact .bool ..
  · exact .str _
  · exact .slnil ..
  · exact .nilptr
  · exact .nilmap
  · exact .nilfn
  · exact .nilif

def constAV : Value → Option AV
  | .agg cs => (cs.toList.mapM zOf).map fun l => .agg (l.map fun z => .fv z.fv)
  | v => (constFV v).map .fv

theorem mapM_get {α β : Type} {f : α → Option β} : ∀ {l : List α} {r : List β}, l.mapM f = some r → l.length = r.length ∧ ∀ (j : Nat) (y : β), r[j]? = some y → ∃ x, l[j]? = some x ∧ f x = some y := by
  intro l
  induction l with
  | nil => intro r h; simp at h; subst h; exact ⟨rfl, fun j y hy => by simp at hy⟩
  | cons a l ih =>
    intro r h
    simp only [List.mapM_cons, Option.pure_def, Option.bind_eq_bind, Option.bind_eq_some_iff] at h
    obtain ⟨b, hb, r', hr', h⟩ := h
    simp at h; subst h
    obtain ⟨h1, h2⟩ := ih hr'
    refine ⟨by simp [h1], fun j y hy => ?_⟩
    cases j with
    | zero => simp at hy; subst hy; exact ⟨a, by simp, hb⟩
    | succ j => simp at hy; obtain ⟨x, hx, hf⟩ := h2 j y hy; exact ⟨x, by simpa using hx, hf⟩

theorem zeros_ok {vs : Array Value} {l : List Z} (h : vs.toList.mapM zOf = some l) (w : World) (F : Nat → Prop) (ρ : Nat → Nat) (N : Nat) :
    l.length = vs.size ∧ ∀ (j : Nat) (x : AV), (l.map fun z => AV.fv z.fv)[j]? = some x → VR w F ρ N x (vs.getD j undef) := by
  obtain ⟨h1, h2⟩ := mapM_get h
  refine ⟨by simpa using h1.symm, fun j x hx => ?_⟩
  simp only [List.getElem?_map, Option.map_eq_some_iff] at hx
  obtain ⟨z, hz, rfl⟩ := hx
  obtain ⟨v, hv, hz'⟩ := h2 j z hz
  have hv' : vs[j]? = some v := by simpa using hv
  rw [Array.getD_eq_getD_getElem?, hv']
  exact .fv _ _ (zOf_ok hz' w F)

theorem constAV_ok {v : Value} {x : AV} (h : constAV v = some x) (w : World) (F : Nat → Prop) (ρ : Nat → Nat) (N : Nat) : VR w F ρ N x v := by
  unfold constAV at h
  split at h
  · rename_i cs
    simp only [Option.map_eq_some_iff] at h
    obtain ⟨l, hl, rfl⟩ := h
    obtain ⟨h1, h2⟩ := zeros_ok hl w F ρ N
    exact .agg _ _ (by simp [h1]) h2
  · simp only [Option.map_eq_some_iff] at h
    obtain ⟨z, hz, rfl⟩ := h
    exact .fv _ _ (constFV_ok hz w F)

/-- An operand. -/
def aev (fr : Frame) : Operand → Option AV
  | .tmp t => fget fr t
  | .const v => constAV v
  | .func f => some (.fv (.fn (.func f)))
  | .global _ => none

theorem aev_ok {nt : Nat} {c : Cx} {a : Act} {fr : Frame} {H : Heap} (hs : Sit nt c a fr H) {x : Operand} {r : AV} (h : aev fr x = some r) :
    VR c.w c.F c.ρ c.N r (a.eval x) := by
  cases x with
  | tmp t => exact (hs.fr.get h).2
  | const v => exact constAV_ok h ..
  | global g => cases h
  | func f => simp [aev] at h; subst h; exact .fv _ _ (.fn _)

end Go.Sl
