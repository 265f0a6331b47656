/- Operations that only compute, as rules. No condition. -/
import Derived.Test.YtfbagkifhpnfjaaSl4
import Derived.Laws.Small
namespace Go.Sl
open Go
set_option linter.unusedVariables false
set_option linter.unusedSimpArgs false
variable {P : Program}

theorem VR.fv_inv {w : World} {F : Nat → Prop} {ρ : Nat → Nat} {N : Nat} {x : FV} {v : Value} (h : VR w F ρ N (.fv x) v) : FR w F x v := by
  cases h with | fv _ _ h => exact h

theorem VR.int_inv {w : World} {F : Nat → Prop} {ρ : Nat → Nat} {N : Nat} {k : IntKind} {n : Int} {v : Value} (h : VR w F ρ N (.fv (.int k n)) v) : v = .int k n := by
  cases h.fv_inv; rfl

theorem VR.str_inv {w : World} {F : Nat → Prop} {ρ : Nat → Nat} {N : Nat} {s : List UInt8} {v : Value} (h : VR w F ρ N (.fv (.str s)) v) : v = .string ⟨s.toArray⟩ := by
  cases h.fv_inv; rfl

theorem VR.tuple_inv {w : World} {F : Nat → Prop} {ρ : Nat → Nat} {N : Nat} {cs : List AV} {v : Value} (h : VR w F ρ N (.tuple cs) v) :
    ∃ vs, v = .tuple vs ∧ cs.length = vs.size ∧ ∀ j x, cs[j]? = some x → VR w F ρ N x (vs.getD j undef) := by
  cases h with | tuple _ vs hl hv => exact ⟨vs, rfl, hl, hv⟩

theorem VR.agg_inv {w : World} {F : Nat → Prop} {ρ : Nat → Nat} {N : Nat} {cs : List AV} {v : Value} (h : VR w F ρ N (.agg cs) v) :
    ∃ vs, v = .agg vs ∧ cs.length = vs.size ∧ ∀ j x, cs[j]? = some x → VR w F ρ N x (vs.getD j undef) := by
  cases h with | agg _ vs hl hv => exact ⟨vs, rfl, hl, hv⟩

section
variable {nt N : Nat} {o : Oper} {fr : Frame} {H : Heap}

theorem ARead.move {x : Operand} {r : AV} (ho : o.op = .move x) (h : aev fr x = some r) : ARead P nt o N fr H r := by
  intro c a hN hs
  exact ⟨a.eval x, fun w' hw' => by simp [execOp, ho], aev_ok hs h⟩

theorem ARead.assign {x : Operand} {r : AV} (ho : o.op = .assign x) (h : aev fr x = some r) : ARead P nt o N fr H r := by
  intro c a hN hs
  exact ⟨a.eval x, fun w' hw' => by simp [execOp, ho], aev_ok hs h⟩

theorem ARead.pick {x y z : Operand} {b : Bool} {r : AV} (ho : o.op = .pick x y z) (hb : aev fr x = some (.fv (.bool b))) (h : aev fr (bif b then y else z) = some r) : ARead P nt o N fr H r := by
  intro c a hN hs
  have h1 := (aev_ok hs hb).bool_inv
  refine ⟨a.eval (bif b then y else z), fun w' hw' => ?_, aev_ok hs h⟩
  cases b <;> simp [execOp, ho, h1, asBool]

theorem ARead.extract {x : Operand} {i : Nat} {cs : List AV} {r : AV} (ho : o.op = .extract x i) (h : aev fr x = some (.tuple cs)) (hr : cs[i]? = some r) : ARead P nt o N fr H r := by
  intro c a hN hs
  obtain ⟨vs, hv, hl, hval⟩ := (aev_ok hs h).tuple_inv
  have hi := len_of_get hr
  have hi' : i < vs.size := by omega
  refine ⟨vs.getD i undef, fun w' hw' => ?_, hval i r hr⟩
  have : vs[i]? = some vs[i] := Array.getElem?_eq_getElem hi'
  simp [execOp, ho, hv, Instr.extract, this, Array.getD, hi']

/-- Two numbers or two texts, and an operator that does not fail. -/
def abin (op : BinOp) (x y : FV) : Option FV :=
  match op, x, y with
  | .add, .int k a, .int k' b => if k = k' then some (.int k (k.wrap (a + b))) else none
  | .sub, .int k a, .int k' b => if k = k' then some (.int k (k.wrap (a - b))) else none
  | .mul, .int k a, .int k' b => if k = k' then some (.int k (k.wrap (a * b))) else none
  | .and, .int k a, .int k' b => if k = k' then some (.int k (k.wrap (BitVec.ofInt k.bits a &&& BitVec.ofInt k.bits b).toNat)) else none
  | .or, .int k a, .int k' b => if k = k' then some (.int k (k.wrap (BitVec.ofInt k.bits a ||| BitVec.ofInt k.bits b).toNat)) else none
  | .xor, .int k a, .int k' b => if k = k' then some (.int k (k.wrap (BitVec.ofInt k.bits a ^^^ BitVec.ofInt k.bits b).toNat)) else none
  | .andNot, .int k a, .int k' b => if k = k' then some (.int k (k.wrap (BitVec.ofInt k.bits a &&& ~~~ BitVec.ofInt k.bits b).toNat)) else none
  | .eql, .int k a, .int k' b => if k = k' then some (.bool (decide (a = b))) else none
  | .neq, .int k a, .int k' b => if k = k' then some (.bool (!decide (a = b))) else none
  | .lss, .int k a, .int k' b => if k = k' then some (.bool (decide (a < b))) else none
  | .leq, .int k a, .int k' b => if k = k' then some (.bool (decide (a ≤ b))) else none
  | .gtr, .int k a, .int k' b => if k = k' then some (.bool (decide (b < a))) else none
  | .geq, .int k a, .int k' b => if k = k' then some (.bool (decide (b ≤ a))) else none
  | .eql, .str a, .str b => some (.bool (decide (a = b)))
  | .neq, .str a, .str b => some (.bool (!decide (a = b)))
  | .lss, .str a, .str b => some (.bool (Op.bytesLess a b))
  | .leq, .str a, .str b => some (.bool (Op.bytesLess a b || decide (a = b)))
  | .gtr, .str a, .str b => some (.bool (!(Op.bytesLess a b || decide (a = b))))
  | .geq, .str a, .str b => some (.bool (!Op.bytesLess a b))
  | _, _, _ => none

theorem toList_mk (s : List UInt8) : (⟨s.toArray⟩ : ByteArray).toList = s := by rw [ByteArray.toList_eq]

theorem beq_decide {α : Type} [BEq α] [LawfulBEq α] [DecidableEq α] (a b : α) : (a == b) = decide (a = b) := by
  by_cases h : a = b <;> simp [h]

theorem abin_ok {op : BinOp} {x y r : FV} (h : abin op x y = some r) {w : World} {F : Nat → Prop} {vx vy : Value} (hx : FR w F x vx) (hy : FR w F y vy) (t : TypeId) (ox oy : Operand) :
    ∃ v, (∀ w', (do eqGuard op t ox oy vx vy; binOp op t vx vy : Sem Value).run P w' = .ok v w') ∧ FR w F r v := by
  unfold abin at h
  split at h
  all_goals first
    | (simp only [Option.ite_none_right_eq_some, Option.some.injEq] at h; obtain ⟨h1, h2⟩ := h; subst h1; subst h2; cases hx; cases hy
       refine ⟨_, fun w' => (by simp only [eqGuard, binOp, Op.intArith, Op.intBits, Op.intCmp, Sem.run_bind]; simp only [Sem.run_pure, Result.andThen_ok, ne_eq, not_true_eq_false, if_false, ite_false]; rfl), ?_⟩
       first | exact .int .. | (simp only [beq_decide, bne]; exact .bool ..) | exact .bool ..)
    | (simp only [Option.some.injEq] at h; subst h; cases hx; cases hy; refine ⟨_, fun w' => (by simp only [eqGuard, binOp, Op.stringOp, Sem.run_bind]; simp only [Sem.run_pure, Result.andThen_ok]; rfl), ?_⟩; simp only [toList_mk, beq_decide]; exact .bool ..)
    | (exact absurd h (by simp))

theorem ARead.binOp {op : BinOp} {t t' : TypeId} {x y : Operand} {fx fy r : FV} (ho : o.op = .binOp op t x y t') (hx : aev fr x = some (.fv fx)) (hy : aev fr y = some (.fv fy))
    (h : abin op fx fy = some r) : ARead P nt o N fr H (.fv r) := by
  intro c a hN hs
  obtain ⟨v, hv, hr⟩ := abin_ok (P := P) h (aev_ok hs hx).fv_inv (aev_ok hs hy).fv_inv t x y
  refine ⟨v, fun w' hw' => ?_, .fv _ _ hr⟩
  simp only [execOp, ho]
  rw [Sem.run_bind, hv w']; rfl

theorem ARead.shl {t t' : TypeId} {x y : Operand} {k k' : IntKind} {m n : Int} (ho : o.op = .binOp .shl t x y t') (hx : aev fr x = some (.fv (.int k m))) (hy : aev fr y = some (.fv (.int k' n)))
    (h : 0 ≤ n) : ARead P nt o N fr H (.fv (.int k (k.wrap (m * 2 ^ min n.toNat k.bits)))) := by
  intro c a hN hs
  have h1 := (aev_ok hs hx).int_inv
  have h2 := (aev_ok hs hy).int_inv
  refine ⟨_, fun w' hw' => ?_, .fv _ _ (.int ..)⟩
  simp [execOp, ho, h1, h2, eqGuard, Go.binOp, Op.shift, Int.not_lt.2 h]

theorem ARead.shr {t t' : TypeId} {x y : Operand} {k k' : IntKind} {m n : Int} (ho : o.op = .binOp .shr t x y t') (hx : aev fr x = some (.fv (.int k m))) (hy : aev fr y = some (.fv (.int k' n)))
    (h : 0 ≤ n) : ARead P nt o N fr H (.fv (.int k (m.fdiv (2 ^ min n.toNat k.bits)))) := by
  intro c a hN hs
  have h1 := (aev_ok hs hx).int_inv
  have h2 := (aev_ok hs hy).int_inv
  refine ⟨_, fun w' hw' => ?_, .fv _ _ (.int ..)⟩
  simp [execOp, ho, h1, h2, eqGuard, Go.binOp, Op.shift, Int.not_lt.2 h]

theorem ARead.quo {t t' : TypeId} {x y : Operand} {k : IntKind} {m n : Int} (ho : o.op = .binOp .quo t x y t') (hx : aev fr x = some (.fv (.int k m))) (hy : aev fr y = some (.fv (.int k n)))
    (h : n ≠ 0) : ARead P nt o N fr H (.fv (.int k (k.wrap (m.tdiv n)))) := by
  intro c a hN hs
  have h1 := (aev_ok hs hx).int_inv
  have h2 := (aev_ok hs hy).int_inv
  refine ⟨_, fun w' hw' => ?_, .fv _ _ (.int ..)⟩
  simp [execOp, ho, h1, h2, eqGuard, Go.binOp, Op.intDiv, h]

theorem ARead.rem {t t' : TypeId} {x y : Operand} {k : IntKind} {m n : Int} (ho : o.op = .binOp .rem t x y t') (hx : aev fr x = some (.fv (.int k m))) (hy : aev fr y = some (.fv (.int k n)))
    (h : n ≠ 0) : ARead P nt o N fr H (.fv (.int k (m.tmod n))) := by
  intro c a hN hs
  have h1 := (aev_ok hs hx).int_inv
  have h2 := (aev_ok hs hy).int_inv
  refine ⟨_, fun w' hw' => ?_, .fv _ _ (.int ..)⟩
  simp [execOp, ho, h1, h2, eqGuard, Go.binOp, Op.intDiv, h]

/-- Two texts side by side. -/
theorem ARead.cat {t t' : TypeId} {x y : Operand} {s s' : List UInt8} (ho : o.op = .binOp .add t x y t') (hx : aev fr x = some (.fv (.str s))) (hy : aev fr y = some (.fv (.str s')))
    (h : s.length + s'.length ≤ 9223372036854775807) : ARead P nt o N fr H (.fv (.str (s ++ s'))) := by
  intro c a hN hs
  have h1 := (aev_ok hs hx).str_inv
  have h2 := (aev_ok hs hy).str_inv
  refine ⟨.string ⟨(s ++ s').toArray⟩, fun w' hw' => ?_, .fv _ _ (.str _)⟩
  have hsz : ¬ (((⟨s.toArray⟩ : ByteArray).size + (⟨s'.toArray⟩ : ByteArray).size : Nat) : Int) > IntKind.i64.max := by
    have e : IntKind.i64.max = 9223372036854775807 := by decide
    simp only [e, ByteArray.size, List.size_toArray]; omega
  have hap : (⟨s.toArray⟩ ++ ⟨s'.toArray⟩ : ByteArray) = ⟨(s ++ s').toArray⟩ := by
    apply ByteArray.ext; simp
  simp only [execOp, ho, h1, h2, eqGuard, Go.binOp, Op.stringOp, hap, if_neg hsz]
  rfl

theorem ARead.boolEql {tab : TypeId → Option TD} (T : TabOk P tab) {neg : Bool} {t t' : TypeId} {td : TD} {x y : Operand} {p q : Bool} (ho : o.op = .binOp (bif neg then .neq else .eql) t x y t')
    (ht : tab t = some td) (hk : td.kind = .bool) (hx : aev fr x = some (.fv (.bool p))) (hy : aev fr y = some (.fv (.bool q))) : ARead P nt o N fr H (.fv (.bool (bif neg then !(p == q) else p == q))) := by
  intro c a hN hs
  have h1 := (aev_ok hs hx).bool_inv
  have h2 := (aev_ok hs hy).bool_inv
  obtain ⟨desc, hu, _, hkk⟩ := run_under T ht
  rw [hk] at hkk
  obtain rfl := kind_bool hkk
  have he := fun w => run_equal_bool w t p q hu
  refine ⟨.bool (bif neg then !(p == q) else p == q), fun w' hw' => ?_, .fv _ _ (.bool _)⟩
  cases neg
  · simp only [cond_false] at ho
    simp only [execOp, ho, h1, h2, eqGuard, Go.binOp, Sem.run_bind, he, Sem.run_pure, Result.andThen_ok, cond_false, Bool.not_true, if_false, Bool.false_eq_true]
  · simp only [cond_true] at ho
    simp only [execOp, ho, h1, h2, eqGuard, Go.binOp, Sem.run_bind, he, Sem.run_pure, Result.andThen_ok, cond_true, Bool.not_true, if_false, Bool.false_eq_true]

/-- One number, one bool. -/
def aun (op : UnOp) (x : FV) : Option FV :=
  match op, x with
  | .neg, .int k n => some (.int k (k.wrap (0 - n)))
  | .xor, .int k n => some (.int k (k.wrap (BitVec.ofInt k.bits (if k.signed then -1 else k.max) ^^^ BitVec.ofInt k.bits n).toNat))
  | .not, .bool b => some (.bool (!b))
  | _, _ => none

theorem ARead.unOp {op : UnOp} {t : TypeId} {x : Operand} {fx r : FV} (ho : o.op = .unOp op t x) (hx : aev fr x = some (.fv fx)) (h : aun op fx = some r) : ARead P nt o N fr H (.fv r) := by
  intro c a hN hs
  have hx' := (aev_ok hs hx).fv_inv
  unfold aun at h
  generalize hv : a.eval x = v at hx'
  split at h
  · obtain rfl := Option.some.inj h
    cases hx'
    exact ⟨_, fun w' hw' => by simp only [execOp, ho, hv, Op.unary, Op.intArith, Sem.run_bind, Sem.run_pure, Result.andThen_ok], .fv _ _ (.int ..)⟩
  · obtain rfl := Option.some.inj h
    cases hx'
    refine ⟨_, fun w' hw' => (by simp only [execOp, ho, hv, Op.unary, Op.intBits, Sem.run_bind, Sem.run_pure, Result.andThen_ok]), .fv _ _ (.int ..)⟩
  · obtain rfl := Option.some.inj h
    cases hx'
    exact ⟨_, fun w' hw' => by simp only [execOp, ho, hv, Op.unary, Sem.run_bind, Sem.run_pure, Result.andThen_ok], .fv _ _ (.bool ..)⟩
  · exact absurd h (by simp)

theorem ARead.convInt {tab : TypeId → Option TD} (T : TabOk P tab) {s t : TypeId} {sd td : TD} {k k' : IntKind} {x : Operand} {n : Int} (ho : o.op = .convert s t x)
    (hs' : tab s = some sd) (ht : tab t = some td) (hsk : sd.kind = .int k) (hk : td.kind = .int k') (hx : aev fr x = some (.fv (.int k n))) : ARead P nt o N fr H (.fv (.int k' (k'.wrap n))) := by
  intro c a hN hs
  have h1 := (aev_ok hs hx).int_inv
  obtain ⟨desc, _, hu, hkk⟩ := run_under T ht
  rw [hk] at hkk
  obtain rfl := kind_int hkk
  obtain ⟨desc, _, hu', hkk⟩ := run_under T hs'
  rw [hsk] at hkk
  obtain rfl := kind_int hkk
  refine ⟨.int k' (k'.wrap n), fun w' hw' => ?_, .fv _ _ (.int ..)⟩
  simp [execOp, ho, h1, hu, hu', convert, Conv.intToInt]

theorem ARead.makeInterface {tab : TypeId → Option TD} (T : TabOk P tab) {t : TypeId} {td : TD} {x : Operand} {r : AV} (ho : o.op = .makeInterface t x) (ht : tab t = some td) (hk : td.kind ≠ .iface)
    (hx : aev fr x = some r) : ARead P nt o N fr H (.iface t r) := by
  intro c a hN hs
  obtain ⟨desc, _, hu, hkk⟩ := run_under T ht
  refine ⟨.iface t (a.eval x), fun w' hw' => ?_, .iface _ _ _ (aev_ok hs hx)⟩
  cases desc <;> first
    | (simp [kindOf] at hkk; exact absurd hkk.symm hk)
    | simp [execOp, ho, Instr.makeInterface, hu]

theorem evs_ok {c : Cx} {a : Act} (hs : Sit nt c a fr H) {xs : Array Operand} {rs : List AV} (h : xs.toList.mapM (aev fr) = some rs) : VRs c rs (xs.map a.eval) := by
  obtain ⟨h1, h2⟩ := mapM_get h
  refine ⟨by simpa using h1.symm, fun j x hx => ?_⟩
  obtain ⟨y, hy, hf⟩ := h2 j x hx
  have hy' : xs[j]? = some y := by simpa using hy
  rw [Array.getD_eq_getD_getElem?, Array.getElem?_map, hy']
  exact aev_ok hs hf

theorem ARead.makeFunc {f : Fn} {xs ys : Array Operand} {rs ss : List AV} (ho : o.op = .makeFunc f xs ys) (hx : xs.toList.mapM (aev fr) = some rs) (hy : ys.toList.mapM (aev fr) = some ss) :
    ARead P nt o N fr H (.fn f rs ss) := by
  intro c a hN hs
  obtain ⟨h1, h2⟩ := evs_ok hs hx
  obtain ⟨h3, h4⟩ := evs_ok hs hy
  exact ⟨.func f (xs.map a.eval) (ys.map a.eval), fun w' hw' => by simp [execOp, ho, Instr.makeFunc], .fn f rs ss _ _ h1 h3 h2 h4⟩

/-- A part of a struct's cells. -/
def apart (agg : Bool) (off size : Nat) (cs : List AV) : Option AV :=
  if agg then (if off + size ≤ cs.length then some (.agg ((cs.drop off).take size)) else none) else cs[off]?

theorem getD_extract (vs : Array Value) (i j k : Nat) (d : Value) (h : j + k < i) (hi : i ≤ vs.size) : (vs.extract j i).getD k d = vs.getD (j + k) d := by
  simp only [Array.getD_eq_getD_getElem?]
  rw [Array.getElem?_extract]
  congr 1
  by_cases h' : k < min i vs.size - j
  · rw [if_pos h']
  · exact absurd (by omega) h'

theorem run_part' {tab : TypeId → Option TD} (T : TabOk P tab) {t : TypeId} {td : TD} (ht : tab t = some td) {w : World} {F : Nat → Prop} {ρ : Nat → Nat} {off : Nat} {cs : List AV} {vs : Array Value} {r : AV}
    (h : apart td.kind.agg off td.size cs = some r) (hl : cs.length = vs.size) (hv : ∀ j x, cs[j]? = some x → VR w F ρ N x (vs.getD j undef)) :
    ∃ v, (∀ w', (part t vs off).run P w' = .ok v w') ∧ VR w F ρ N r v := by
  have ha := run_isAgg' T ht
  have hsz := run_sizeOf' T ht
  unfold apart at h
  cases hagg : td.kind.agg with
  | true =>
    rw [hagg] at h ha
    simp only [if_true] at h
    split at h <;> simp at h
    subst h
    refine ⟨.agg (vs.extract off (off + td.size)), fun w' => by simp [part, ha, hsz], .agg _ _ ?_ ?_⟩
    · simp; omega
    · intro j x hx
      have hj := len_of_get hx
      simp at hj
      rw [List.getElem?_take] at hx
      split at hx <;> simp at hx
      rw [getD_extract _ _ _ _ _ (by omega) (by omega)]
      exact hv _ _ hx
  | false =>
    rw [hagg] at h ha
    simp at h
    have hi := len_of_get h
    have hi' : off < vs.size := by omega
    refine ⟨vs[off], fun w' => ?_, ?_⟩
    · simp [part, ha, Array.getElem?_eq_getElem hi']
    · have := hv off r h
      rwa [Array.getD_eq_getD_getElem?, Array.getElem?_eq_getElem hi'] at this

theorem kind_field {fs : Array Field} {l : List FD} (h : fs.toList.mapM (fun f => (P.info? f.type).map fun i => (⟨f.offset, i.size, f.type, f.name == "_"⟩ : FD)) = some l) {i : Nat} {d : FD} (hd : l[i]? = some d) :
    ∃ f, fs[i]? = some f ∧ f.offset = d.off ∧ f.type = d.ty ∧ (f.name == "_") = d.blank ∧ (P.info? d.ty).map (·.size) = some d.size := by
  obtain ⟨_, h2⟩ := mapM_get h
  obtain ⟨f, hf, he⟩ := h2 i d hd
  simp only [Option.map_eq_some_iff] at he
  obtain ⟨inf, hi, rfl⟩ := he
  exact ⟨f, by simpa using hf, rfl, rfl, rfl, by simp [hi]⟩

theorem ARead.field {tab : TypeId → Option TD} (T : TabOk P tab) {t : TypeId} {td fd : TD} {x : Operand} {i : Nat} {fs : List FD} {d : FD} {cs : List AV} {r : AV} (ho : o.op = .field t x i) (ht : tab t = some td)
    (hk : td.kind = .struct fs) (hd : fs[i]? = some d) (hf : tab d.ty = some fd) (hx : aev fr x = some (.agg cs)) (hr : apart fd.kind.agg d.off fd.size cs = some r) : ARead P nt o N fr H r := by
  intro c a hN hs
  obtain ⟨desc, _, hu, hkk⟩ := run_under T ht
  rw [hk] at hkk
  obtain ⟨f, rfl, hm⟩ := kind_struct hkk
  obtain ⟨fl, hfl, h1, h2, h3, h4⟩ := kind_field hm hd
  obtain ⟨vs, hv, hl, hval⟩ := (aev_ok hs hx).agg_inv
  obtain ⟨v, hrun, hvr⟩ := run_part' T hf hr hl hval
  refine ⟨v, fun w' hw' => ?_, hvr⟩
  simp [execOp, ho, Instr.field, hu, hfl, hv, asAgg, h1, h2, hrun]

end
end Go.Sl
