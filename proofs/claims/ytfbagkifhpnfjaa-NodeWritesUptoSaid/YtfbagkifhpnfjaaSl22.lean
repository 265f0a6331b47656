/- An evaluator of operations on told values; that it tells the truth. No condition. -/
import Derived.Test.YtfbagkifhpnfjaaSl21
namespace Go.Sl
open Go
set_option linter.unusedVariables false
set_option linter.unusedSimpArgs false
variable {P : Program}

/-- What the evaluator keeps in a block. -/
inductive EO where
  | vr (cs : List AV)
  | row (sz : Nat) (nil : Bool) (els : List (List AV))

def EO.obj : EO → AObj
  | .vr cs => Sl.vr cs
  | .row sz nil els => .row sz nil els

abbrev EH := List (Nat × EO)
def eh (H : EH) : Heap := H.map fun p => (p.1, p.2.obj)

def hget : EH → Nat → Option (EO × EH)
  | [], _ => none
  | (m, o) :: H, n => bif Nat.beq m n then some (o, H) else
    match hget H n with
    | some (o', H') => some (o', (m, o) :: H')
    | none => none

theorem hget_has : ∀ {H : EH} {n : Nat} {o : EO} {H' : EH}, hget H n = some (o, H') → Has n o.obj (eh H) (eh H')
  | [], n, o, H', h => by cases h
  | (m, o) :: H, n, o', H', h => by
    simp only [hget] at h
    cases hb : Nat.beq m n with
    | true =>
      rw [hb] at h
      obtain rfl := Nat.eq_of_beq_eq_true hb
      simp only [cond_true, Option.some.injEq, Prod.mk.injEq] at h
      obtain ⟨rfl, rfl⟩ := h
      exact .head _
    | false =>
      rw [hb] at h
      simp only [cond_false] at h
      split at h
      · rename_i hh
        simp only [Option.some.injEq, Prod.mk.injEq] at h
        obtain ⟨rfl, rfl⟩ := h
        exact .tail _ _ _ (hget_has hh)
      · cases h

def ck {α : Type} (b : Bool) (x : Option α) : Option α := bif b then x else none
theorem ck_some {α : Type} {b : Bool} {x : Option α} {y : α} (h : ck b x = some y) : b = true ∧ x = some y := by
  cases b with
  | true => exact ⟨rfl, h⟩
  | false => cases h

def nn : Int → Bool
  | .ofNat _ => true
  | .negSucc _ => false
theorem nn_ok {m : Int} (h : nn m = true) : 0 ≤ m := by
  cases m with
  | ofNat n => exact Int.natCast_nonneg n
  | negSucc n => cases h
theorem lt_ok {m : Int} {n : Nat} (h0 : 0 ≤ m) (h : Nat.blt m.toNat n = true) : m < n := by
  have := Nat.le_of_ble_eq_true h
  omega

def bndE (fr : Frame) (x : Option Operand) (d : Nat) : Option Nat :=
  match x with
  | none => some d
  | some x => match aev fr x with
    | some (.fv (.int _ m)) => ck (nn m) (some m.toNat)
    | _ => none
theorem bndE_ok {fr : Frame} {x : Option Operand} {d l : Nat} (h : bndE fr x d = some l) : ABnd fr x d l := by
  unfold bndE at h
  split at h
  · exact (Option.some.inj h).symm
  · split at h
    · rename_i k m hx
      obtain ⟨h1, h2⟩ := ck_some h
      exact ⟨k, m, hx, nn_ok h1, (Option.some.inj h2).symm⟩
    · cases h

theorem arr1 {α : Type} {a : Array α} {x : α} (h : a.toList = [x]) : a = #[x] := by
  have := congrArg List.toArray h; simpa using this
theorem arr2 {α : Type} {a : Array α} {x y : α} (h : a.toList = [x, y]) : a = #[x, y] := by
  have := congrArg List.toArray h; simpa using this

section
variable (tab : TypeId → Option TD) (fr : Frame) (H : EH)

def okQ : AV → Bool
  | .fv (.int ..) | .fv (.str _) | .iface .. | .fv .nilif | .fv (.iface1 ..) | .fv (.ifaceA ..) | .ifb .. | .junk => false
  | _ => true

def eqE (t : TypeId) (y : Operand) (p q : AV) : Option Bool :=
  match tab t with
  | none => none
  | some td =>
    match td.kind, y with
    | .iface, .const .nilIface => aeq tab 100 t p (.fv .nilif)
    | _, _ => ck (!td.guard && okQ q) (aeq tab 100 t p q)

def binE (op : BinOp) (t : TypeId) (x y : Operand) : Option AV :=
  match aev fr x, aev fr y with
  | some (.fv (.int k m)), some (.fv (.int k' n)) =>
    match op with
    | .shl => ck (nn n) (some (.fv (.int k (k.wrap (m * 2 ^ min n.toNat k.bits)))))
    | .shr => ck (nn n) (some (.fv (.int k (m.fdiv (2 ^ min n.toNat k.bits)))))
    | .quo => ck (decide (k = k') && !decide (n = 0)) (some (.fv (.int k (k.wrap (m.tdiv n)))))
    | .rem => ck (decide (k = k') && !decide (n = 0)) (some (.fv (.int k (m.tmod n))))
    | op => (abin op (.int k m) (.int k' n)).map .fv
  | some (.fv (.str a)), some (.fv (.str b)) =>
    match op with
    | .add => ck (Nat.ble (a.length + b.length) 9223372036854775807) (some (.fv (.str (a ++ b))))
    | op => (abin op (.str a) (.str b)).map .fv
  | some p, some q =>
    match op with
    | .eql => (eqE tab t y p q).map fun b => .fv (.bool b)
    | .neq => (eqE tab t y p q).map fun b => .fv (.bool (!b))
    | _ => none
  | _, _ => none

def iaE (t : TypeId) (x y : Operand) : Option AV :=
  match tab t, aev fr x, aev fr y with
  | some td, some p, some (.fv (.int _ m)) =>
    match td.kind with
    | .slice e =>
      match tab e, p with
      | some ed, .fv (.sl sz _ len g) => ck (Nat.beq ed.size sz && nn m && Nat.blt m.toNat len) (some (.fv (.fptr (g m.toNat))))
      | some ed, .sl n sz i len _ => ck (Nat.beq ed.size sz && nn m && Nat.blt m.toNat len) (some (.ptr n 0 0 ((i + m.toNat) * sz)))
      | some ed, .row n false len => ck (nn m && Nat.blt m.toNat len) (some (.ptr n 0 0 (m.toNat * ed.size)))
      | _, _ => none
    | .arr len e =>
      match tab e, p with
      | some ed, .ptr n sz i j => ck (nn m && Nat.blt m.toNat len) (some (.ptr n 0 0 (i * sz + j + m.toNat * ed.size)))
      | _, _ => none
    | _ => none
  | _, _, _ => none

def idxE (t : TypeId) (x y : Operand) : Option AV :=
  match tab t, aev fr x, aev fr y with
  | some td, some p, some (.fv (.int _ m)) =>
    match td.kind, p with
    | .str, .fv (.str s) => ck (nn m && Nat.blt m.toNat s.length) (some (.fv (.int .u8 (s.getD m.toNat 0).toNat)))
    | .arr len e, .agg cs =>
      match tab e with
      | some ed => ck (nn m && Nat.blt m.toNat len) (apart ed.kind.agg (m.toNat * ed.size) ed.size cs)
      | none => none
    | _, _ => none
  | _, _, _ => none

def plainAll (agg : Bool) (off size : Nat) (cs : List AV) (r : AV) : Bool := (bif agg then ((cs.drop off).take size) else [r]).all AV.plain

def loadE (td : TD) (p : AV) : Option AV :=
  match p with
  | .fv (.fptr cs) => apart td.kind.agg 0 td.size (cs.map .fv)
  | .ptr n sz i j =>
    match hget H n with
    | some (.vr cs, _) =>
      match apart td.kind.agg (i * sz + j) td.size cs with
      | some r => ck (plainAll td.kind.agg (i * sz + j) td.size cs r) (some r)
      | none => none
    | some (.row s false els, _) =>
      match apart td.kind.agg ((i * sz + j) % s) td.size (els.getD ((i * sz + j) / s) []) with
      | some r => ck (Nat.blt ((i * sz + j) / s) els.length && plainAll td.kind.agg ((i * sz + j) % s) td.size (els.getD ((i * sz + j) / s) []) r) (some r)
      | none => none
    | _ => none
  | _ => none

def sliceE (t : TypeId) (x : Operand) (lo hi mx : Option Operand) : Option AV :=
  match tab t, aev fr x with
  | some td, some p =>
    match td.kind, mx with
    | .str, none =>
      match p with
      | .fv (.str s) => match bndE fr lo 0, bndE fr hi s.length with
        | some l, some h => ck (Nat.ble l h && Nat.ble h s.length) (some (.fv (.str ((s.take h).drop l))))
        | _, _ => none
      | _ => none
    | .arr m e, none =>
      match tab e, p, bndE fr lo 0, bndE fr hi m with
      | some ed, .ptr n sz i j, some l, some h => ck (Nat.ble l h && Nat.ble h m && Nat.beq ((i * sz + j) / ed.size * ed.size) (i * sz + j)) (some (.sl n ed.size ((i * sz + j) / ed.size + l) (h - l) (some (m - l))))
      | _, _, _, _ => none
    | .slice e, none =>
      match tab e with
      | none => none
      | some ed =>
        match p with
        | .fv (.sl sz true 0 g) => match bndE fr lo 0, bndE fr hi 0 with
          | some 0, some 0 => some (.fv (.sl sz true 0 g))
          | _, _ => none
        | .fv (.sl sz false len g) => match bndE fr lo 0, bndE fr hi len with
          | some l, some h => ck (Nat.ble l h && Nat.ble h len && Nat.beq ed.size sz) (some (.fv (.sl sz false (h - l) fun k => g (l + k))))
          | _, _ => none
        | .sl n sz i len cap => match bndE fr lo 0, bndE fr hi len with
          | some l, some h => ck (Nat.ble l h && (Nat.ble h len || (match cap with | some k => Nat.ble h k | none => false)) && Nat.beq ed.size sz) (some (.sl n sz (i + l) (h - l) (cap.map (· - l))))
          | _, _ => none
        | .row n true 0 => match bndE fr lo 0, bndE fr hi 0 with
          | some 0, some 0 => some (.fv (.sl ed.size true 0 fun _ => []))
          | _, _ => none
        | .row n false len => match bndE fr lo 0, bndE fr hi len, hget H n with
          | some l, some h, some (.row s false els, _) => ck (Nat.ble l h && Nat.ble h len && Nat.beq ed.size s && Nat.beq els.length len) (some (.sl n s l (h - l) none))
          | _, _, _ => none
        | _ => none
    | .slice e, some mx =>
      match tab e, hi with
      | some _, some hi =>
        match bndE fr lo 0, bndE fr (some hi) (match p with | .fv (.sl _ _ len _) => len | .row _ _ len => len | .sl _ _ _ len _ => len | _ => 0), bndE fr (some mx) 0 with
        | some 0, some 0, some 0 =>
          match p with
          | .fv (.sl sz nil len g) => some (.fv (bif nil then .sl sz true 0 g else .sl0 sz))
          | .row n nil len => some (.fv (bif nil then .sl 0 true 0 (fun _ => []) else .sl0 0))
          | .sl n sz i len cap => some (.fv (.sl0 sz))
          | _ => none
        | _, _, _ => none
      | _, _ => none
    | _, _ => none
  | _, _ => none

def partsE (parts : Array (Nat × Operand)) : Option (List (Nat × AV)) := parts.toList.mapM (fun p => (aev fr p.2).map fun x => (p.1, x))

def lenE (t : TypeId) (x : Operand) : Option AV :=
  match tab t, aev fr x with
  | some td, some p =>
    match td.kind, p with
    | .str, .fv (.str s) => some (.fv (.int .i64 s.length))
    | .slice _, .row _ _ len => some (.fv (.int .i64 len))
    | .slice _, p => match aslen p with
      | some n => some (.fv (.int .i64 n))
      | none => none
    | .arr n _, _ => some (.fv (.int .i64 n))
    | _, _ => none
  | _, _ => none

/-- Operations that leave the world as it was. -/
def rdE (op : Op) : Option AV :=
  match op with
  | .move x | .assign x => aev fr x
  | .pick c a b =>
    match aev fr c with
    | some (.fv (.bool p)) => aev fr (bif p then a else b)
    | _ => none
  | .extract x i => match aev fr x with | some (.tuple cs) => cs[i]? | _ => none
  | .binOp op t x y _ => binE tab fr op t x y
  | .unOp op _ x => match aev fr x with | some (.fv fx) => (aun op fx).map .fv | _ => none
  | .convert s t x =>
    match tab s, tab t, aev fr x with
    | some sd, some td, some (.fv (.int k n)) =>
      match sd.kind, td.kind with
      | .int k0, .int k' => ck (decide (k0 = k)) (some (.fv (.int k' (k'.wrap n))))
      | _, _ => none
    | _, _, _ => none
  | .makeInterface t x => match tab t with
    | some td => ck (match td.kind with | .iface => false | _ => true) ((aev fr x).map (.iface t))
    | none => none
  | .makeFunc f xs ys => match xs.toList.mapM (aev fr), ys.toList.mapM (aev fr) with
    | some rs, some ss => some (.fn f rs ss)
    | _, _ => none
  | .field t x i => match tab t, aev fr x with
    | some td, some (.agg cs) =>
      match td.kind with
      | .struct fs => match fs[i]? with
        | some d => match tab d.ty with
          | some fd => apart fd.kind.agg d.off fd.size cs
          | none => none
        | none => none
      | _ => none
    | _, _ => none
  | .fieldAddr t x f => match tab t, aev fr x with
    | some td, some p =>
      match td.kind with
      | .struct fs => match fs[f]? with
        | some d => match p with
          | .ptr n sz i j => ck (!Nat.beq d.size 0) (some (.ptr n sz i (j + d.off)))
          | .fv (.fptr cs) => ck (!Nat.beq d.size 0) (some (.fv (.fptr (cs.drop d.off))))
          | _ => none
        | none => none
      | _ => none
    | _, _ => none
  | .indexAddr t x y => iaE tab fr t x y
  | .index t x y => idxE tab fr t x y
  | .load t x => match tab t, aev fr x with
    | some td, some p => loadE H td p
    | _, _ => none
  | .slice t x lo hi mx => sliceE tab fr H t x lo hi mx
  | .nilCheck x => match aev fr x with
    | some p => ck (notNil p) (some p)
    | none => none
  | .build t parts => match tab t with
    | some td => match td.zero, partsE fr parts with
      | some (_, zs), some ps => ck (td.kind.agg && (match td.kind with | .arr _ e => (tab e).isSome | _ => true)) ((afill (placeOf tab td) (zs.map fun z => AV.fv z.fv) ps).map .agg)
      | _, _ => none
    | none => none
  | .typeAssert x _ t true => match tab t, aev fr x with
    | some td, some p => match td.zero with
      | some _ => ck (match td.kind with | .iface => false | _ => true) (match p with
        | .iface t' r => if t' = t then some (.tuple [r, .fv (.bool true)]) else some (.tuple [.junk, .fv (.bool false)])
        | .fv .nilif => some (.tuple [.junk, .fv (.bool false)])
        | _ => none)
      | none => none
    | _, _ => none
  | .call c =>
    match c.callee, c.args.toList, c.argTypes.toList with
    | .builtin .len, [x], [t] => lenE tab fr t x
    | .builtin .max, [x, y], _ => match aev fr x, aev fr y with | some (.fv p), some (.fv q) => (amax true p q).map .fv | _, _ => none
    | .builtin .min, [x, y], _ => match aev fr x, aev fr y with | some (.fv p), some (.fv q) => (amax false p q).map .fv | _, _ => none
    | _, _, _ => none
  | _ => none
end
end Go.Sl
