/- What the laws' arguments read as: told values, of bulk at most 1048576. No condition. -/
import Derived.Test.YtfbagkifhpnfjaaNode1
import Derived.Test.YtfbagkifhpnfjaaSl31
import Derived.Test.YtfbagkifhpnfjaaRows
namespace Go.Sl
open Go Go.Proofs Go.Proofs.Ytfbagkifhpnfjaa
set_option linter.unusedVariables false
set_option maxRecDepth 100000
theorem bulk_part {H : Type} {d : DataW H} {l : List (DataW H)} (h : d ∈ l) : Rows.uptoBulk d ≤ Rows.uptoBulkAll l := by
  induction l with
  | nil => cases h
  | cons x r ih =>
    simp only [Rows.uptoBulkAll]
    cases List.mem_cons.1 h with
    | inl e => subst e; omega
    | inr e => have := ih e; omega
theorem bulk_one {H : Type} (d : DataW H) : 1 ≤ Rows.uptoBulk d := by
  cases d with
  | lit l => cases l <;> simp [Rows.uptoBulk]
  | nil => simp [Rows.uptoBulk]
  | ptr d => simp [Rows.uptoBulk]
  | slice elems spare => simp [Rows.uptoBulk]
  | agg parts => simp [Rows.uptoBulk]
  | iface t d => simp [Rows.uptoBulk]
  | map entries => simp [Rows.uptoBulk]
  | held h => simp [Rows.uptoBulk]
theorem bulk_length {H : Type} (l : List (DataW H)) : l.length ≤ Rows.uptoBulkAll l := by
  induction l with
  | nil => simp [Rows.uptoBulkAll]
  | cons x r ih => have := bulk_one x; simp only [Rows.uptoBulkAll, List.length_cons]; omega
theorem bulkOk {H : Type} : BulkOk (H := H) Rows.uptoBulk where
  str := fun b => by simp [Rows.uptoBulk]
  slice := fun es sp => by
    have h1 := bulk_length es
    refine ⟨by simp only [Rows.uptoBulk]; omega, fun d hd => ?_⟩
    have := bulk_part hd
    simp only [Rows.uptoBulk]; omega
  agg := fun ps d hd => by
    have := bulk_part hd
    simp only [Rows.uptoBulk]; omega
theorem bulk_args {H : Type} {l : List (DataW H)} (h : Rows.uptoSmall H l = true) : ∀ d, d ∈ l → Rows.uptoBulk d ≤ 1048576 := fun d hd => by
  have h1 : Rows.uptoBulkAll l ≤ 1048576 := of_decide_eq_true h
  exact Nat.le_trans (bulk_part hd) h1

section
variable {H : Type} {enc : TypeId × Value → H} {W : World}
abbrev RdT (t : TypeId) {α : Type} (f : α → List FV) (good : α → Prop) : Prop := ∀ {H : Type} {enc : TypeId × Value → H} {W : World}, Rd Rows.uptoBulk 1048576 enc Try.prog W t f good
def PrOk (p : Pr) : Prop := p.key.length ≤ 1048576 ∧ p.val.length ≤ 1048576
def O6Ok (o : O6) : Prop := (Lit.int .i64 o.kind).wf = true ∧ o.key.length ≤ 1048576 ∧ o.val.length ≤ 1048576 ∧ o.lo.length ≤ 1048576 ∧ o.hi.length ≤ 1048576 ∧ (Lit.int .i64 o.most).wf = true
def EnOk (x : En) : Prop := (Lit.int .u64 x.seq).wf = true ∧ O6Ok x.op
def BfOk (b : Bf) : Prop := (b.nil = true → b.l = []) ∧ b.l.length ≤ 1048576 ∧ ∀ x ∈ b.l, EnOk x

theorem rdPair : RdT 61 prF PrOk := by
  intro H enc W
  exact Rd.mono (Rd.struct (tot := 2) bulkOk Try.underlying61 (by kernel_rfl) (RdF.cons (k := 1) (tot := 2) rfl (by kernel_rfl) (by decide) (Rd.str bulkOk Try.underlying9) (RdF.cons (k := 1) (tot := 2) rfl (by kernel_rfl) (by decide) (Rd.str bulkOk Try.underlying9) (RdF.nil 2)))) (fun p => ⟨p.1, p.2.1⟩) (fun a h => rfl) (fun a h => ⟨h.1, h.2.1⟩)
theorem rdOp : RdT 92 o6F O6Ok := by
  intro H enc W
  exact Rd.mono (Rd.struct (tot := 6) bulkOk Try.underlying92 (by kernel_rfl) (RdF.cons (k := 1) (tot := 6) rfl (by kernel_rfl) (by decide) (Rd.int Try.underlying3) (RdF.cons (k := 1) (tot := 6) rfl (by kernel_rfl) (by decide) (Rd.str bulkOk Try.underlying9) (RdF.cons (k := 1) (tot := 6) rfl (by kernel_rfl) (by decide) (Rd.str bulkOk Try.underlying9) (RdF.cons (k := 1) (tot := 6) rfl (by kernel_rfl) (by decide) (Rd.str bulkOk Try.underlying9) (RdF.cons (k := 1) (tot := 6) rfl (by kernel_rfl) (by decide) (Rd.str bulkOk Try.underlying9) (RdF.cons (k := 1) (tot := 6) rfl (by kernel_rfl) (by decide) (Rd.int Try.underlying3) (RdF.nil 6)))))))) (fun p => ⟨p.1, p.2.1, p.2.2.1, p.2.2.2.1, p.2.2.2.2.1, p.2.2.2.2.2.1⟩) (fun a h => rfl) (fun a h => ⟨h.1, h.2.1, h.2.2.1, h.2.2.2.1, h.2.2.2.2.1, h.2.2.2.2.2.1⟩)
theorem rdEn : RdT 94 enF EnOk := by
  intro H enc W
  exact Rd.mono (Rd.struct (tot := 7) bulkOk Try.underlying94 (by kernel_rfl) (RdF.cons (k := 1) (tot := 7) rfl (by kernel_rfl) (by decide) (Rd.int Try.underlying90) (RdF.cons (k := 6) (tot := 7) rfl (by kernel_rfl) (by decide) rdOp (RdF.nil 7)))) (fun p => ⟨p.1, p.2.1⟩) (fun a h => rfl) (fun a h => ⟨h.1, h.2.1⟩)
theorem rdPrs : RdT 22 (fun p : Bool × List Pr => [rowsF 2 p.1 prF pr0 p.2]) (fun p => (p.1 = true → p.2 = []) ∧ p.2.length ≤ 1048576 ∧ ∀ a, a ∈ p.2 → PrOk a) := fun {H enc W} => Rd.slice bulkOk pr0 Try.underlying22 (by kernel_rfl) rdPair
theorem rdEns : RdT 23 (fun p : Bool × List En => [rowsF 7 p.1 enF en0 p.2]) (fun p => (p.1 = true → p.2 = []) ∧ p.2.length ≤ 1048576 ∧ ∀ a, a ∈ p.2 → EnOk a) := fun {H enc W} => Rd.slice bulkOk en0 Try.underlying23 (by kernel_rfl) rdEn
theorem rdStr : RdT 9 strF (fun s => s.length ≤ 1048576) := fun {H enc W} => .str bulkOk Try.underlying9
theorem rdInt : RdT 3 intF (fun n => (Lit.int .i64 n).wf = true) := fun {H enc W} => .int Try.underlying3
theorem rdBf : RdT 23 bfF BfOk := fun {H enc W} => Rd.mono rdEns (fun p => ⟨p.1, p.2⟩) (fun a h => rfl) (fun a h => h)
theorem rdStrs : RdT 24 (fun p : Bool × List Str => [rowsF 1 p.1 strF [] p.2]) (fun p => (p.1 = true → p.2 = []) ∧ p.2.length ≤ 1048576 ∧ ∀ a, a ∈ p.2 → (fun s : Str => s.length ≤ 1048576) a) := fun {H enc W} => Rd.slice bulkOk [] Try.underlying24 (by kernel_rfl) rdStr
theorem rdInts : RdT 49 (fun p : Bool × List Int => [rowsF 1 p.1 intF 0 p.2]) (fun p => (p.1 = true → p.2 = []) ∧ p.2.length ≤ 1048576 ∧ ∀ a, a ∈ p.2 → (fun n : Int => (Lit.int .i64 n).wf = true) a) := fun {H enc W} => Rd.slice bulkOk 0 Try.underlying49 (by kernel_rfl) rdInt
theorem rdBfs : RdT 26 (fun p : Bool × List Bf => [rowsF 1 p.1 bfF bf0 p.2]) (fun p => (p.1 = true → p.2 = []) ∧ p.2.length ≤ 1048576 ∧ ∀ a, a ∈ p.2 → BfOk a) := fun {H enc W} => Rd.slice bulkOk bf0 Try.underlying26 (by kernel_rfl) rdBf
abbrev ndF (n : Nd) : List FV := [.bool n.leaf, rowsF 2 n.pn prF pr0 n.pairs, rowsF 1 n.kn intF 0 n.kids, rowsF 1 n.vn strF [] n.pivots, rowsF 1 n.bn bfF bf0 n.bufs]
structure NdGood (n : Nd) : Prop where
  pairs : n.pairs.length ≤ 1048576 ∧ ∀ p ∈ n.pairs, PrOk p
  kids : n.kids.length ≤ 1048576 ∧ ∀ k ∈ n.kids, (Lit.int .i64 k).wf = true
  pivots : n.pivots.length ≤ 1048576 ∧ ∀ p ∈ n.pivots, p.length ≤ 1048576
  bufs : n.bufs.length ≤ 1048576 ∧ ∀ b ∈ n.bufs, BfOk b

theorem rdNode : RdT 76 ndF NdGood := by
  intro H enc W
  exact Rd.mono (Rd.struct (tot := 5) bulkOk Try.underlying76 (by kernel_rfl) (RdF.cons (k := 1) (tot := 5) rfl (by kernel_rfl) (by decide) (Rd.bool Try.underlying4) (RdF.cons (k := 1) (tot := 5) rfl (by kernel_rfl) (by decide) rdPrs (RdF.cons (k := 1) (tot := 5) rfl (by kernel_rfl) (by decide) rdInts (RdF.cons (k := 1) (tot := 5) rfl (by kernel_rfl) (by decide) rdStrs (RdF.cons (k := 1) (tot := 5) rfl (by kernel_rfl) (by decide) rdBfs (RdF.nil 5))))))) (fun p => ⟨p.1, p.2.1.1, p.2.1.2, p.2.2.1.1, p.2.2.1.2, p.2.2.2.1.1, p.2.2.2.1.2, p.2.2.2.2.1.1, p.2.2.2.2.1.2⟩) (fun a h => rfl) (fun a h => ⟨h.2.1.2, h.2.2.1.2, h.2.2.2.1.2, h.2.2.2.2.1.2⟩)
end
end Go.Sl
