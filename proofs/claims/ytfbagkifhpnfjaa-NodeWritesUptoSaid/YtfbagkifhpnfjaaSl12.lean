/- Pure contracts; loops and arithmetic for walks. No condition. -/
import Derived.Test.YtfbagkifhpnfjaaSl11
namespace Go.Sl
open Go
set_option linter.unusedVariables false
variable {P : Program} {nt N : Nat} {ops : Array Oper} {o : Oper} {rest : List Oper} {fr : Frame} {H : Heap} {K : Nat → Frame → Heap → Prop}

/-- A function that only computes. -/
def APure (P : Program) (f : FuncId) (args : List AV) (v : AV) : Prop := ∀ N, ACall P f args N [] fun _ r H' => r = v ∧ H' = []

theorem APure.at {f : FuncId} {args : List AV} {v : AV} (h : APure P f args v) (N : Nat) (H : Heap) : ACall P f args N H fun _ r H' => r = v ∧ H' = H :=
  ((h N).frame (.nil H)).mono fun N' r H' _ hr => by obtain ⟨H1, ⟨h1, rfl⟩, h2⟩ := hr; exact ⟨h1, h2⟩

theorem ACall.dropAll {f : FuncId} {args : List AV} {H : Heap} {R : Nat → AV → Prop} (h : ACall P f args N H fun N' r _ => R N' r) : ACall P f args N H fun N' r H' => R N' r ∧ H' = [] := by
  refine ⟨h.1, fun c hN hs vs hv R' hk => h.2 c hN hs vs hv R' fun v c' r H' h1 h2 h3 h4 => ?_⟩
  refine hk v { c' with Own := [] } r [] ⟨.nil, List.nodup_nil, fun b hb => (by cases hb), h1.inF⟩ (h2.trans (Step.reown c' [] fun b hb => (by cases hb))) h3 ⟨h4, rfl⟩

theorem APure.intro {f : FuncId} {args : List AV} {v : AV} (h : ∀ N, ACall P f args N [] fun _ r _ => r = v) : APure P f args v := fun N => (h N).dropAll

/-- A call of a function that only computes. -/
theorem AOps.pcall {d : Nat} {f : Operand} {args : Array Operand} {ts : Array TypeId} {g : FuncId} {first cap xs : List AV} {v : AV} (h : APure P g (first ++ xs ++ cap) v) (ho : o.op = .call { callee := .value f, args := args, argTypes := ts })
    (hf : aev fr f = some (.fn (.func g) first cap) ∨ (aev fr f = some (.fv (.fn (.func g))) ∧ first = [] ∧ cap = [])) (hx : args.toList.mapM (aev fr) = some xs) (hg : o.guard = none) (hd : o.dst = some d) (hn : Nat.ble (d + 1) nt = true)
    (k : ∀ N', N ≤ N' → AOps P nt ops rest N' (fset fr d v) H K) : AOps P nt ops (o :: rest) N fr H K :=
  AOps.op (AOp.call ho hf hx (h.at N H)) hg hd hn fun N' r H' hN hr => by obtain ⟨rfl, rfl⟩ := hr; exact k N' hN

theorem AOps.gpcall {d j t : Nat} {oj : Oper} {want G : Bool} {x : AV} {fr' : Frame} {f : Operand} {args : Array Operand} {ts : Array TypeId} {g : FuncId} {first cap xs : List AV} {v : AV}
    (hg : o.guard = some (j, want)) (hj : ops[j]? = some oj) (ht : oj.dst = some t) (hx0 : fget fr t = some x) (hG : guardOf want x = some G) (hs : Sub G fr fr')
    (ho : o.op = .call { callee := .value f, args := args, argTypes := ts })
    (hf : aev fr' f = some (.fn (.func g) first cap) ∨ (aev fr' f = some (.fv (.fn (.func g))) ∧ first = [] ∧ cap = [])) (hx : args.toList.mapM (aev fr') = some xs) (h : G = true → APure P g (first ++ xs ++ cap) v) (hd : o.dst = some d) (hn : Nat.ble (d + 1) nt = true)
    (k : ∀ N', N ≤ N' → AOps P nt ops rest N' (fset fr d (.ifb G v)) H K) : AOps P nt ops (o :: rest) N fr H K :=
  AOps.gcall hg hj ht hx0 hG hs (fun hGt => AOp.call ho hf hx ((h hGt).at N H)) (fun N' r' H' hr => ⟨hr.1, hr.2⟩) hd hn k

theorem i64_ok {n : Int} (h1 : -9223372036854775808 ≤ n) (h2 : n ≤ 9223372036854775807) : IntKind.i64.wrap n = n := by
  simp only [IntKind.wrap, IntKind.bits, IntKind.signed, Bool.true_and]
  by_cases h : n % 2 ^ 64 ≥ 2 ^ (64 - 1)
  · rw [if_pos (by simpa using h)]; omega
  · rw [if_neg (by simpa using h)]; omega

theorem u64_ok {n : Int} (h1 : 0 ≤ n) (h2 : n ≤ 18446744073709551615) : IntKind.u64.wrap n = n := by
  simp only [IntKind.wrap, IntKind.bits, IntKind.signed, Bool.false_and]
  rw [if_neg (by simp)]; omega

theorem u8_ok {n : Int} (h1 : 0 ≤ n) (h2 : n ≤ 255) : IntKind.u8.wrap n = n := by
  simp only [IntKind.wrap, IntKind.bits, IntKind.signed, Bool.false_and]
  rw [if_neg (by simp)]; omega

theorem u32_ok {n : Int} (h1 : 0 ≤ n) (h2 : n ≤ 4294967295) : IntKind.u32.wrap n = n := by
  simp only [IntKind.wrap, IntKind.bits, IntKind.signed, Bool.false_and]
  rw [if_neg (by simp)]; omega

variable {Q : Post} {body : Code}

/-- Sums, differences and products that do not go round. -/
def araw (op : BinOp) (a b : Int) : Option Int :=
  match op with
  | .add => some (a + b)
  | .sub => some (a - b)
  | .mul => some (a * b)
  | _ => none

theorem ARead.binW {op : BinOp} {t t' : TypeId} {x y : Operand} {k : IntKind} {a b r : Int} (ho : o.op = .binOp op t x y t') (hx : aev fr x = some (.fv (.int k a))) (hy : aev fr y = some (.fv (.int k b)))
    (h : araw op a b = some r) (hw : k.wrap r = r) : ARead P nt o N fr H (.fv (.int k r)) := by
  refine ARead.binOp ho hx hy ?_
  unfold araw at h
  split at h <;> simp at h <;> subst h <;> simp [abin, hw]

/-- A loop whose slots are picked by number. -/
theorem AWp.loopP {α : Type} (is : List Nat) (fs : α → Nat → Frame) (hs : α → Nat → Heap) (good : α → Nat → Prop) (μ : α → Nat) (x0 : α) {Hx0 : Heap}
    (hfr : fpick fr is = some (fs x0 N)) (hH : Take (hs x0 N) H Hx0) (h0 : good x0 N)
    (round : ∀ x N', N ≤ N' → good x N' → ∀ K : Nat → Frame → Heap → Prop, (∀ N2 fr2 H2 x2 Hx, fpick fr2 is = some (fs x2 N2) → Take (hs x2 N2) H2 Hx → good x2 N2 → μ x2 < μ x → K N2 fr2 H2) → AWp P nt body N' (fs x N') (hs x N') (Post.then K Q)) :
    AWp P nt (.loop body) N fr H Q :=
  AWp.loop fs hs good μ x0 h0 (fpick_mem hfr) hH fun x N' hN hg => round x N' hN hg _ fun N2 fr2 H2 x2 Hx h1 h2 h3 h4 => ⟨x2, Hx, h3, fpick_mem h1, h2, h4⟩

end Go.Sl
