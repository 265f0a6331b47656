/- Walks of package node, three: Check and Child. No condition beside those in the statements. -/
import Derived.Test.YtfbagkifhpnfjaaNode2
namespace Go.Sl
open Go Go.Proofs 
set_option linter.unusedVariables false
set_option linter.unusedSimpArgs false
set_option maxRecDepth 20000
set_option maxHeartbeats 400000
def pivOkF : Option Str → List Str → Bool
  | _, [] => true
  | last, p :: l => decide (checkKeyF p = 0) && (match last with | some q => Op.bytesLess q p | none => true) && pivOkF (some p) l
def lastPiv (l : List Str) (i : Nat) : Option Str := if i = 0 then none else some (l.getD (i - 1) [])
def bufsErrF : List Bf → Int
  | [] => 0
  | b :: l => if bufCheckF none b.l ≠ 0 then bufCheckF none b.l else bufsErrF l
def outF (v : List Str) (i : Nat) (b : Bf) : Bool := b.l.any fun x => !(withinF (boundLo v i) (boundHi v i) x.op)
def anyOutF (v : List Str) : Nat → List Bf → Bool
  | _, [] => false
  | i, b :: l => if outF v i b then true else anyOutF v (i + 1) l
def nodeBadF (n : Nd) : Bool :=
  bif bif bif bif bif bif decide (0 < (n.pairs.length : Int)) then true else decide ((n.kids.length : Int) < 2) then true else decide (8 < (n.kids.length : Int)) then true else !decide ((n.pivots.length : Int) = n.kids.length - 1) then true
    else !decide ((n.bufs.length : Int) = n.kids.length) then true else decide (minF n.kids < 1) then true else decide (2147483647 < maxF n.kids)
theorem nodeBad_false {n : Nd} (h : nodeBadF n = false) : n.pairs = [] ∧ 2 ≤ n.kids.length ∧ n.kids.length ≤ 8 ∧ n.pivots.length + 1 = n.kids.length ∧ n.bufs.length = n.kids.length ∧ 1 ≤ minF n.kids ∧ maxF n.kids ≤ 2147483647 := by
  simp only [nodeBadF, Bool.cond_true_left, Bool.or_eq_false_iff, decide_eq_false_iff_not, Bool.not_eq_false', decide_eq_true_eq] at h
  obtain ⟨⟨⟨⟨⟨⟨h1, h2⟩, h3⟩, h4⟩, h5⟩, h6⟩, h7⟩ := h
  exact ⟨List.eq_nil_of_length_eq_zero (by omega), by omega, by omega, by omega, by omega, by omega, by omega⟩
theorem lastPiv_succ (l : List Str) (x : Nat) : lastPiv l (x + 1) = some (l.getD x []) := by simp [lastPiv]
theorem pivOk_step (l : List Str) (x : Nat) (h : (bif !decide (checkKeyF (l.getD x []) = 0) then true else bif decide (0 < (x : Int)) then !Op.bytesLess (l.getD (x - 1) []) (l.getD x []) else false) = false) :
    decide (checkKeyF (l.getD x []) = 0) = true ∧ (match lastPiv l x with | some q => Op.bytesLess q (l.getD x []) | none => true) = true := by
  cases hk : decide (checkKeyF (l.getD x []) = 0) with
  | false => rw [hk] at h; cases h
  | true =>
    rw [hk] at h
    refine ⟨rfl, ?_⟩
    by_cases h0 : x = 0
    · subst h0; rfl
    · have h1 : decide (0 < (x : Int)) = true := by simp; omega
      rw [h1] at h
      simp only [Bool.not_true, cond_true, cond_false, Bool.not_eq_false'] at h
      simp only [lastPiv, if_neg h0]; exact h
theorem pivOk_stop (l : List Str) (x : Nat) (r : Bool) (h : (bif !decide (checkKeyF (l.getD x []) = 0) then true else bif decide (0 < (x : Int)) then !Op.bytesLess (l.getD (x - 1) []) (l.getD x []) else false) = true) :
    (decide (checkKeyF (l.getD x []) = 0) && (match lastPiv l x with | some q => Op.bytesLess q (l.getD x []) | none => true) && r) = false := by
  cases hk : decide (checkKeyF (l.getD x []) = 0) with
  | false => rfl
  | true =>
    rw [hk] at h
    by_cases h0 : x = 0
    · subst h0; cases h
    · have h1 : decide (0 < (x : Int)) = true := by simp; omega
      rw [h1] at h
      simp only [Bool.not_true, cond_true, cond_false, Bool.not_eq_true'] at h
      simp only [lastPiv, if_neg h0, h]; rfl
theorem getD_mem {α : Type} {l : List α} {i : Nat} {d : α} (h : i < l.length) : l.getD i d ∈ l := by
  rw [List.getD_eq_getElem?_getD, List.getElem?_eq_getElem h]; exact List.getElem_mem h
def nodeCheckF (n : Nd) : Int :=
  if n.leaf = true then (if 0 < n.kids.length + n.pivots.length + n.bufs.length then 130 else checkMapF [] n.pairs)
  else if nodeBadF n = true then 130 else if pivOkF none n.pivots = false then 130 else if bufsErrF n.bufs ≠ 0 then bufsErrF n.bufs else if anyOutF n.pivots 0 n.bufs = true then 130 else 0
structure NdOk (n : Nd) : Prop where
  pairs : n.pairs.length ≤ 1073741824
  kids : n.kids.length ≤ 1073741824
  pivots : n.pivots.length ≤ 1073741824
  bufs : n.bufs.length ≤ 1073741824
  each : ∀ b ∈ n.bufs, b.l.length ≤ 1073741824

theorem hasEn_ok (nil : Bool) (l : List En) (hl : l.length ≤ 1073741824) (g : FuncId) (cap : List AV) (H : Heap) (p : En → Bool) (N0 N : Nat) (hf : TellsEn g cap H p N0) (hN0 : N0 ≤ N) : ACall Try.prog 81 [ens nil l, .fn (.func g) [] cap] N H (fun _ r H' => r = vb (l.any p) ∧ H' = H) := by
  refine ACall.of_body tabOk (tab := tab) (fn := Try.f81) Try.func81 (by kernel_rfl) rfl (by simp [Try.f81]) ?_
  show AWp Try.prog 9 _ N [(0, ens nil l), (1, .fn (.func g) [] cap)] H _
  refine AWp.regK fun K1 hK1 => ?_
  refine AOps.read (ARead.assign rfl rfl) rfl rfl rfl ?_
  refine AOps.nil (hK1 _ _ _ ?_); clear hK1 K1
  refine AWp.keep [0, 1] rfl ?_
  refine AWp.regK fun K2 hK2 => ?_
  refine AOps.read (ARead.move rfl rfl) rfl rfl rfl ?_
  refine AOps.read (ARead.move rfl rfl) rfl rfl rfl ?_
  refine AOps.op (AOp.call rfl (.inr ⟨rfl, rfl, rfl⟩) rfl (idxEn_ok nil l hl g cap H p N0 _ hf hN0)) rfl rfl rfl ?_
  rintro N1 r1 H1 hN1 ⟨rfl, rfl⟩
  refine AOps.read (ARead.binOp rfl rfl rfl rfl) rfl rfl rfl ?_
  refine AOps.keep [8] rfl ?_
  refine AOps.read (ARead.assign rfl rfl) rfl rfl rfl ?_
  refine AOps.nil (hK2 _ _ _ ?_); clear hK2 K2
  refine AWp.keep [4] rfl ?_
  refine AWp.ret ?_
  refine ⟨Or.inr rfl, _, (.tmp _ _ _ _ rfl .nil), ?_⟩
  (try clear hK2 K2); (try clear hK1 K1)
  refine ⟨?_, rfl⟩; show packR _ = _; simp only [packR]; rw [← idxF_any p 0 l]

theorem check1_ok (n : Nd) (i : Int) (h0 : 0 ≤ i) (h1 : i ≤ n.pivots.length) (hl : n.pivots.length ≤ 1073741824) (a b : Nat) (x : En) (N : Nat) : ACall Try.prog 82 [.agg (enA x), .ptr a 5 0 0, .ptr b 1 0 0] N [(b, vr [vi i]), (a, vr (ndC n))] (fun _ r H' => ∃ H1 Hx, Take H1 H' Hx ∧ r = vb (!(withinF (boundLo n.pivots i) (boundHi n.pivots i) x.op)) ∧ H1 = [(b, vr [vi i]), (a, vr (ndC n))]) := by
  refine ACall.of_body tabOk (tab := tab) (fn := Try.f82) Try.func82 (by kernel_rfl) rfl (by simp [Try.f82]) ?_
  show AWp Try.prog 12 _ N [(0, .agg (enA x)), (1, .ptr a 5 0 0), (2, .ptr b 1 0 0)] [(b, vr [vi i]), (a, vr (ndC n))] _
  refine AWp.regK fun K1 hK1 => ?_
  refine AOps.op1 (AOp.box rfl rfl rfl) rfl rfl rfl ?_
  refine AOps.read (ARead.assign rfl rfl) rfl rfl rfl ?_
  refine AOps.nil (hK1 _ _ _ ?_); clear hK1 K1
  refine AWp.keep [1, 2, 3] rfl ?_
  refine AWp.drawnK mixed (take_all _) fun K2 hK2 => ?_
  refine AAny.take 0 (ARead.loadC tabOk rfl rfl rfl (by repeat (first | exact Has.head _ | apply Has.tail)) rfl rfl) rfl (by kernel_rfl) (by kernel_rfl) (by kernel_rfl) rfl rfl rfl ?_
  refine AAny.take 1 (ARead.loadC tabOk rfl rfl rfl (by repeat (first | exact Has.head _ | apply Has.tail)) rfl rfl) rfl (by kernel_rfl) (by kernel_rfl) (by kernel_rfl) rfl rfl rfl ?_
  refine AAny.keep [3, 5, 6] [3, 5, 6] rfl rfl ?_
  refine AAny.take 3 (ARead.fieldAddr tabOk rfl rfl rfl rfl (by decide) rfl) rfl (by kernel_rfl) (by kernel_rfl) (by kernel_rfl) rfl rfl rfl ?_
  refine AAny.take 4 (ARead.load tabOk rfl rfl rfl (by repeat (first | exact Has.head _ | apply Has.tail)) (by first | decide | omega) rfl rfl) rfl (by kernel_rfl) (by kernel_rfl) (by kernel_rfl) rfl rfl rfl ?_
  refine AAny.one 2 (by kernel_rfl) ?_
  refine AStep.pcallC (bounds_ok n i h0 h1 hl) rfl rfl (by first | exact .inr ⟨rfl, rfl, rfl⟩ | exact .inl rfl) rfl rfl rfl rfl rfl (fun N hN => ?_)
  refine AAny.keep [7, 9] [7, 9] rfl rfl ?_
  refine AAny.one 5 (by kernel_rfl) ?_
  refine AStep.pcallC (within_ok _ _ _) rfl rfl (by first | exact .inr ⟨rfl, rfl, rfl⟩ | exact .inl rfl) rfl rfl rfl rfl rfl (fun N hN => ?_)
  refine AAny.take 6 (ARead.unOp rfl rfl rfl) rfl (by kernel_rfl) (by kernel_rfl) (by kernel_rfl) rfl rfl rfl ?_
  refine AAny.take 7 (ARead.assign rfl rfl) rfl (by kernel_rfl) (by kernel_rfl) (by kernel_rfl) rfl rfl rfl ?_
  refine AAny.done (by kernel_rfl) (hK2 _ _ _ ?_); clear hK2 K2
  try refine AWp.nilApp ?_
  refine AWp.keep [4] rfl ?_
  refine AWp.ret ?_
  refine ⟨Or.inr rfl, _, (.tmp _ _ _ _ rfl .nil), ?_⟩
  (try clear hK2 K2); (try clear hK1 K1)
  exact ⟨_, _, .cons _ _ _ _ _ _ (.tail _ _ _ (.head _)) (.cons _ _ _ _ _ _ (.tail _ _ _ (.head _)) (.nil _)), (by show packR _ = _; rfl), rfl⟩

theorem check1_tells (n : Nd) (i : Int) (h0 : 0 ≤ i) (h1 : i ≤ n.pivots.length) (hl : n.pivots.length ≤ 1073741824) (a b N0 : Nat) :
    TellsEn 82 [.ptr a 5 0 0, .ptr b 1 0 0] [(b, vr [vi i]), (a, vr (ndC n))] (fun x => !(withinF (boundLo n.pivots i) (boundHi n.pivots i) x.op)) N0 :=
  fun N x _ => ACall.forget ((check1_ok n i h0 h1 hl a b x N).mono fun N' r H' _ ⟨H1, Hx, h1, h2, h3⟩ => ⟨H1, Hx, h1, h2, h3⟩)

theorem nodeCheck_ok (n : Nd) (ok : NdOk n) : APure Try.prog 34 [ndA n] (vi (nodeCheckF n)) := by
  refine APure.intro fun N0 => ?_
  obtain ⟨ok1, ok2, ok3, ok4, ok5⟩ := ok
  refine ACall.of_body tabOk (tab := tab) (fn := Try.f34) Try.func34 (by kernel_rfl) rfl (by simp [Try.f34]) ?_
  show AWp Try.prog 121 _ N0 [(0, ndA n)] [] _
  refine AWp.regK fun K1 hK1 => ?_
  refine AOps.op1 (AOp.box rfl rfl rfl) rfl rfl rfl ?_
  refine AOps.read (ARead.assign rfl rfl) rfl rfl rfl ?_
  refine AOps.nil (hK1 _ _ _ ?_); clear hK1 K1
  refine AWp.keep [1] rfl ?_
  refine AWp.seqK fun K2 hK2 => ?_
  refine AWp.regK fun K3 hK3 => ?_
  refine AOps.read (ARead.fieldAddr tabOk rfl rfl rfl rfl (by decide) rfl) rfl rfl rfl ?_
  refine AOps.read (ARead.load tabOk rfl rfl rfl (by repeat (first | exact Has.head _ | apply Has.tail)) (by first | decide | omega) rfl rfl) rfl rfl rfl ?_
  refine AOps.nil (hK3 _ _ _ ?_); clear hK3 K3
  refine AWp.keep [1, 12] rfl ?_
  refine AWp.cond rfl (fun hb4 => ?_) (fun hb4 => ?_)
  · have hc4 := hb4; clear hb4; try simp only [decide_eq_true_eq, decide_eq_false_iff_not, Bool.not_eq_true, Bool.not_eq_false, Int.not_lt, Int.not_le, Bool.not_eq_true', Bool.not_eq_false'] at hc4
    refine AWp.seqK fun K5 hK5 => ?_
    refine AWp.regK fun K6 hK6 => ?_
    refine AOps.read (ARead.fieldAddr tabOk rfl rfl rfl rfl (by decide) rfl) rfl rfl rfl ?_
    refine AOps.read (ARead.load tabOk rfl rfl rfl (by repeat (first | exact Has.head _ | apply Has.tail)) (by first | decide | omega) rfl rfl) rfl rfl rfl ?_
    first | refine AOps.read (ARead.lenSl tabOk rfl rfl rfl rfl rfl) rfl rfl rfl ?_ | refine AOps.read (ARead.lenRow tabOk rfl rfl rfl rfl) rfl rfl rfl ?_
    refine AOps.read (ARead.fieldAddr tabOk rfl rfl rfl rfl (by decide) rfl) rfl rfl rfl ?_
    refine AOps.keep [1, 15, 16] rfl ?_
    refine AOps.read (ARead.load tabOk rfl rfl rfl (by repeat (first | exact Has.head _ | apply Has.tail)) (by first | decide | omega) rfl rfl) rfl rfl rfl ?_
    first | refine AOps.read (ARead.lenSl tabOk rfl rfl rfl rfl rfl) rfl rfl rfl ?_ | refine AOps.read (ARead.lenRow tabOk rfl rfl rfl rfl) rfl rfl rfl ?_
    first | refine AOps.read (ARead.binW rfl rfl rfl rfl (i64_ok (by omega) (by omega))) rfl rfl rfl ?_ | refine AOps.read (ARead.binOp rfl rfl rfl rfl) rfl rfl rfl ?_
    refine AOps.read (ARead.fieldAddr tabOk rfl rfl rfl rfl (by decide) rfl) rfl rfl rfl ?_
    refine AOps.keep [1, 19, 20] rfl ?_
    refine AOps.read (ARead.load tabOk rfl rfl rfl (by repeat (first | exact Has.head _ | apply Has.tail)) (by first | decide | omega) rfl rfl) rfl rfl rfl ?_
    first | refine AOps.read (ARead.lenSl tabOk rfl rfl rfl rfl rfl) rfl rfl rfl ?_ | refine AOps.read (ARead.lenRow tabOk rfl rfl rfl rfl) rfl rfl rfl ?_
    first | refine AOps.read (ARead.binW rfl rfl rfl rfl (i64_ok (by omega) (by omega))) rfl rfl rfl ?_ | refine AOps.read (ARead.binOp rfl rfl rfl rfl) rfl rfl rfl ?_
    refine AOps.read (ARead.binOp rfl rfl rfl rfl) rfl rfl rfl ?_
    refine AOps.nil (hK6 _ _ _ ?_); clear hK6 K6
    refine AWp.keep [1, 24] rfl ?_
    refine AWp.cond rfl (fun hb7 => ?_) (fun hb7 => ?_)
    · have hc7 := hb7; clear hb7; try simp only [decide_eq_true_eq, decide_eq_false_iff_not, Bool.not_eq_true, Bool.not_eq_false, Int.not_lt, Int.not_le, Bool.not_eq_true', Bool.not_eq_false'] at hc7
      have hfin : nodeCheckF n = 130 := by unfold nodeCheckF; rw [if_pos hc4, if_pos (by omega)]
      refine AWp.regK fun K8 hK8 => ?_
      refine AOps.read (ARead.assign rfl rfl) rfl rfl rfl ?_
      refine AOps.nil (hK8 _ _ _ ?_); clear hK8 K8
      refine AWp.keep [2] rfl ?_
      refine AWp.ret ?_
      refine ⟨Or.inr rfl, _, (.tmp _ _ _ _ rfl .nil), ?_⟩
      (try clear hK8 K8); (try clear hK7 K7); (try clear hK6 K6); (try clear hK5 K5); (try clear hK4 K4); (try clear hK3 K3); (try clear hK2 K2); (try clear hK1 K1)
      show packR _ = _
      simp only [packR]; rw [hfin]
    · have hc7 := hb7; clear hb7; try simp only [decide_eq_true_eq, decide_eq_false_iff_not, Bool.not_eq_true, Bool.not_eq_false, Int.not_lt, Int.not_le, Bool.not_eq_true', Bool.not_eq_false'] at hc7
      have hfin : nodeCheckF n = checkMapF [] n.pairs := by unfold nodeCheckF; rw [if_pos hc4, if_neg (by omega)]
      refine AWp.skip (hK5 _ _ _ ?_); try clear hK5 K5
      refine AWp.keep [1] rfl ?_
      refine AWp.regK fun K9 hK9 => ?_
      refine AOps.read (ARead.fieldAddr tabOk rfl rfl rfl rfl (by decide) rfl) rfl rfl rfl ?_
      refine AOps.read (ARead.load tabOk rfl rfl rfl (by repeat (first | exact Has.head _ | apply Has.tail)) (by first | decide | omega) rfl rfl) rfl rfl rfl ?_
      refine AOps.pcall (checkMap_ok n.pn n.pairs ok1) rfl (by first | exact .inr ⟨rfl, rfl, rfl⟩ | exact .inl rfl) rfl rfl rfl rfl (fun N hN => ?_)
      refine AOps.read (ARead.assign rfl rfl) rfl rfl rfl ?_
      refine AOps.nil (hK9 _ _ _ ?_); clear hK9 K9
      refine AWp.keep [2] rfl ?_
      refine AWp.ret ?_
      refine ⟨Or.inr rfl, _, (.tmp _ _ _ _ rfl .nil), ?_⟩
      (try clear hK9 K9); (try clear hK8 K8); (try clear hK7 K7); (try clear hK6 K6); (try clear hK5 K5); (try clear hK4 K4); (try clear hK3 K3); (try clear hK2 K2); (try clear hK1 K1)
      show packR _ = _
      simp only [packR]; rw [hfin]
  · have hc4 := hb4; clear hb4; try simp only [decide_eq_true_eq, decide_eq_false_iff_not, Bool.not_eq_true, Bool.not_eq_false, Int.not_lt, Int.not_le, Bool.not_eq_true', Bool.not_eq_false'] at hc4
    refine AWp.skip (hK2 _ _ _ ?_); try clear hK2 K2
    refine AWp.keep [1] rfl ?_
    refine AWp.regK fun K10 hK10 => ?_
    refine AOps.read (ARead.fieldAddr tabOk rfl rfl rfl rfl (by decide) rfl) rfl rfl rfl ?_
    refine AOps.read (ARead.load tabOk rfl rfl rfl (by repeat (first | exact Has.head _ | apply Has.tail)) (by first | decide | omega) rfl rfl) rfl rfl rfl ?_
    first | refine AOps.read (ARead.lenSl tabOk rfl rfl rfl rfl rfl) rfl rfl rfl ?_ | refine AOps.read (ARead.lenRow tabOk rfl rfl rfl rfl) rfl rfl rfl ?_
    refine AOps.read (ARead.assign rfl rfl) rfl rfl rfl ?_
    refine AOps.nil (hK10 _ _ _ ?_); clear hK10 K10
    refine AWp.keep [1, 3] rfl ?_
    refine AWp.seqK fun K11 hK11 => ?_
    refine AWp.regK fun K12 hK12 => ?_
    refine AOps.read (ARead.fieldAddr tabOk rfl rfl rfl rfl (by decide) rfl) rfl rfl rfl ?_
    refine AOps.read (ARead.load tabOk rfl rfl rfl (by repeat (first | exact Has.head _ | apply Has.tail)) (by first | decide | omega) rfl rfl) rfl rfl rfl ?_
    first | refine AOps.read (ARead.lenSl tabOk rfl rfl rfl rfl rfl) rfl rfl rfl ?_ | refine AOps.read (ARead.lenRow tabOk rfl rfl rfl rfl) rfl rfl rfl ?_
    refine AOps.read (ARead.binOp rfl rfl rfl rfl) rfl rfl rfl ?_
    refine AOps.keep [1, 3, 34] rfl ?_
    refine AOps.read (ARead.move rfl rfl) rfl rfl rfl ?_
    refine AOps.gread rfl rfl rfl rfl rfl (.cons 3 _ _ _ rfl (by first | exact .strip _ _ id | (refine .strip _ _ (fun h => ?_); simp_all; done) | exact .same _) .nil) (fun hG => ARead.move rfl rfl) rfl rfl ?_
    refine AOps.gread rfl rfl rfl rfl rfl (.cons 36 _ _ _ rfl (by first | exact .strip _ _ id | (refine .strip _ _ (fun h => ?_); simp_all; done) | exact .same _) .nil) (fun hG => ARead.binOp rfl rfl rfl rfl) rfl rfl ?_
    first | refine AOps.read (ARead.pickB rfl rfl rfl (by first | exact .strip _ _ id | (refine .strip _ _ (fun h => ?_); simp_all; done) | exact .same _) rfl (by first | exact .strip _ _ id | (refine .strip _ _ (fun h => ?_); simp_all; done) | exact .same _)) rfl rfl rfl ?_ | refine AOps.read (ARead.pick rfl rfl rfl) rfl rfl rfl ?_
    refine AOps.keep [1, 3, 38] rfl ?_
    refine AOps.read (ARead.move rfl rfl) rfl rfl rfl ?_
    refine AOps.gread rfl rfl rfl rfl rfl (.cons 3 _ _ _ rfl (by first | exact .strip _ _ id | (refine .strip _ _ (fun h => ?_); simp_all; done) | exact .same _) .nil) (fun hG => ARead.move rfl rfl) rfl rfl ?_
    refine AOps.gread rfl rfl rfl rfl rfl (.cons 40 _ _ _ rfl (by first | exact .strip _ _ id | (refine .strip _ _ (fun h => ?_); simp_all; done) | exact .same _) .nil) (fun hG => ARead.binOp rfl rfl rfl rfl) rfl rfl ?_
    first | refine AOps.read (ARead.pickB rfl rfl rfl (by first | exact .strip _ _ id | (refine .strip _ _ (fun h => ?_); simp_all; done) | exact .same _) rfl (by first | exact .strip _ _ id | (refine .strip _ _ (fun h => ?_); simp_all; done) | exact .same _)) rfl rfl rfl ?_ | refine AOps.read (ARead.pick rfl rfl rfl) rfl rfl rfl ?_
    refine AOps.keep [1, 3, 42] rfl ?_
    refine AOps.read (ARead.move rfl rfl) rfl rfl rfl ?_
    refine AOps.gread rfl rfl rfl rfl rfl (.cons 1 _ _ _ rfl (by first | exact .strip _ _ id | (refine .strip _ _ (fun h => ?_); simp_all; done) | exact .same _) .nil) (fun hG => ARead.fieldAddr tabOk rfl rfl rfl rfl (by decide) rfl) rfl rfl ?_
    refine AOps.gread rfl rfl rfl rfl rfl (.cons 44 _ _ _ rfl (by first | exact .strip _ _ id | (refine .strip _ _ (fun h => ?_); simp_all; done) | exact .same _) .nil) (fun hG => ARead.load tabOk rfl rfl rfl (by repeat (first | exact Has.head _ | apply Has.tail)) (by first | decide | omega) rfl rfl) rfl rfl ?_
    first | refine AOps.gread rfl rfl rfl rfl rfl (.cons 45 _ _ _ rfl (by first | exact .strip _ _ id | (refine .strip _ _ (fun h => ?_); simp_all; done) | exact .same _) .nil) (fun hG => ARead.lenSl tabOk rfl rfl rfl rfl rfl) rfl rfl ?_ | refine AOps.gread rfl rfl rfl rfl rfl (.cons 45 _ _ _ rfl (by first | exact .strip _ _ id | (refine .strip _ _ (fun h => ?_); simp_all; done) | exact .same _) .nil) (fun hG => ARead.lenRow tabOk rfl rfl rfl rfl) rfl rfl ?_
    refine AOps.keep [1, 3, 43, 46] rfl ?_
    refine AOps.gread rfl rfl rfl rfl rfl (.cons 3 _ _ _ rfl (by first | exact .strip _ _ id | (refine .strip _ _ (fun h => ?_); simp_all; done) | exact .same _) .nil) (fun hG => ARead.move rfl rfl) rfl rfl ?_
    first | refine AOps.gread rfl rfl rfl rfl rfl (.cons 47 _ _ _ rfl (by first | exact .strip _ _ id | (refine .strip _ _ (fun h => ?_); simp_all; done) | exact .same _) .nil) (fun hG => ARead.binW rfl rfl rfl rfl (i64_ok (by first | omega | (simp at hG; omega)) (by first | omega | (simp at hG; omega)))) rfl rfl ?_ | refine AOps.gread rfl rfl rfl rfl rfl (.cons 47 _ _ _ rfl (by first | exact .strip _ _ id | (refine .strip _ _ (fun h => ?_); simp_all; done) | exact .same _) .nil) (fun hG => ARead.binOp rfl rfl rfl rfl) rfl rfl ?_
    refine AOps.gread rfl rfl rfl rfl rfl (.cons 46 _ _ _ rfl (by first | exact .strip _ _ id | (refine .strip _ _ (fun h => ?_); simp_all; done) | exact .same _) (.cons 48 _ _ _ rfl (by first | exact .strip _ _ id | (refine .strip _ _ (fun h => ?_); simp_all; done) | exact .same _) .nil)) (fun hG => ARead.binOp rfl rfl rfl rfl) rfl rfl ?_
    first | refine AOps.read (ARead.pickB rfl rfl rfl (by first | exact .strip _ _ id | (refine .strip _ _ (fun h => ?_); simp_all; done) | exact .same _) rfl (by first | exact .strip _ _ id | (refine .strip _ _ (fun h => ?_); simp_all; done) | exact .same _)) rfl rfl rfl ?_ | refine AOps.read (ARead.pick rfl rfl rfl) rfl rfl rfl ?_
    refine AOps.keep [1, 3, 50] rfl ?_
    refine AOps.read (ARead.move rfl rfl) rfl rfl rfl ?_
    refine AOps.gread rfl rfl rfl rfl rfl (.cons 1 _ _ _ rfl (by first | exact .strip _ _ id | (refine .strip _ _ (fun h => ?_); simp_all; done) | exact .same _) .nil) (fun hG => ARead.fieldAddr tabOk rfl rfl rfl rfl (by decide) rfl) rfl rfl ?_
    refine AOps.gread rfl rfl rfl rfl rfl (.cons 52 _ _ _ rfl (by first | exact .strip _ _ id | (refine .strip _ _ (fun h => ?_); simp_all; done) | exact .same _) .nil) (fun hG => ARead.load tabOk rfl rfl rfl (by repeat (first | exact Has.head _ | apply Has.tail)) (by first | decide | omega) rfl rfl) rfl rfl ?_
    first | refine AOps.gread rfl rfl rfl rfl rfl (.cons 53 _ _ _ rfl (by first | exact .strip _ _ id | (refine .strip _ _ (fun h => ?_); simp_all; done) | exact .same _) .nil) (fun hG => ARead.lenSl tabOk rfl rfl rfl rfl rfl) rfl rfl ?_ | refine AOps.gread rfl rfl rfl rfl rfl (.cons 53 _ _ _ rfl (by first | exact .strip _ _ id | (refine .strip _ _ (fun h => ?_); simp_all; done) | exact .same _) .nil) (fun hG => ARead.lenRow tabOk rfl rfl rfl rfl) rfl rfl ?_
    refine AOps.keep [1, 3, 51, 54] rfl ?_
    refine AOps.gread rfl rfl rfl rfl rfl (.cons 3 _ _ _ rfl (by first | exact .strip _ _ id | (refine .strip _ _ (fun h => ?_); simp_all; done) | exact .same _) .nil) (fun hG => ARead.move rfl rfl) rfl rfl ?_
    refine AOps.gread rfl rfl rfl rfl rfl (.cons 54 _ _ _ rfl (by first | exact .strip _ _ id | (refine .strip _ _ (fun h => ?_); simp_all; done) | exact .same _) (.cons 55 _ _ _ rfl (by first | exact .strip _ _ id | (refine .strip _ _ (fun h => ?_); simp_all; done) | exact .same _) .nil)) (fun hG => ARead.binOp rfl rfl rfl rfl) rfl rfl ?_
    first | refine AOps.read (ARead.pickB rfl rfl rfl (by first | exact .strip _ _ id | (refine .strip _ _ (fun h => ?_); simp_all; done) | exact .same _) rfl (by first | exact .strip _ _ id | (refine .strip _ _ (fun h => ?_); simp_all; done) | exact .same _)) rfl rfl rfl ?_ | refine AOps.read (ARead.pick rfl rfl rfl) rfl rfl rfl ?_
    refine AOps.read (ARead.move rfl rfl) rfl rfl rfl ?_
    refine AOps.keep [1, 58] rfl ?_
    refine AOps.gread rfl rfl rfl rfl rfl (.cons 1 _ _ _ rfl (by first | exact .strip _ _ id | (refine .strip _ _ (fun h => ?_); simp_all; done) | exact .same _) .nil) (fun hG => ARead.fieldAddr tabOk rfl rfl rfl rfl (by decide) rfl) rfl rfl ?_
    refine AOps.gread rfl rfl rfl rfl rfl (.cons 59 _ _ _ rfl (by first | exact .strip _ _ id | (refine .strip _ _ (fun h => ?_); simp_all; done) | exact .same _) .nil) (fun hG => ARead.load tabOk rfl rfl rfl (by repeat (first | exact Has.head _ | apply Has.tail)) (by first | decide | omega) rfl rfl) rfl rfl ?_
    refine AOps.gpcall rfl rfl rfl rfl rfl (.cons 60 _ _ _ rfl (by first | exact .strip _ _ id | (refine .strip _ _ (fun h => ?_); simp_all; done) | exact .same _) .nil) rfl (by first | exact .inr ⟨rfl, rfl, rfl⟩ | exact .inl rfl) rfl (fun hG => slMin_ok n.kn n.kids (by rintro e; simp [e] at hG) ok2) rfl rfl (fun N hN => ?_)
    refine AOps.gread rfl rfl rfl rfl rfl (.cons 61 _ _ _ rfl (by first | exact .strip _ _ id | (refine .strip _ _ (fun h => ?_); simp_all; done) | exact .same _) .nil) (fun hG => ARead.binOp rfl rfl rfl rfl) rfl rfl ?_
    refine AOps.keep [1, 58, 62] rfl ?_
    first | refine AOps.read (ARead.pickB rfl rfl rfl (by first | exact .strip _ _ id | (refine .strip _ _ (fun h => ?_); simp_all; done) | exact .same _) rfl (by first | exact .strip _ _ id | (refine .strip _ _ (fun h => ?_); simp_all; done) | exact .same _)) rfl rfl rfl ?_ | refine AOps.read (ARead.pick rfl rfl rfl) rfl rfl rfl ?_
    refine AOps.read (ARead.move rfl rfl) rfl rfl rfl ?_
    refine AOps.gread rfl rfl rfl rfl rfl (.cons 1 _ _ _ rfl (by first | exact .strip _ _ id | (refine .strip _ _ (fun h => ?_); simp_all; done) | exact .same _) .nil) (fun hG => ARead.fieldAddr tabOk rfl rfl rfl rfl (by decide) rfl) rfl rfl ?_
    refine AOps.gread rfl rfl rfl rfl rfl (.cons 65 _ _ _ rfl (by first | exact .strip _ _ id | (refine .strip _ _ (fun h => ?_); simp_all; done) | exact .same _) .nil) (fun hG => ARead.load tabOk rfl rfl rfl (by repeat (first | exact Has.head _ | apply Has.tail)) (by first | decide | omega) rfl rfl) rfl rfl ?_
    refine AOps.keep [1, 64, 66] rfl ?_
    refine AOps.gpcall rfl rfl rfl rfl rfl (.cons 66 _ _ _ rfl (by first | exact .strip _ _ id | (refine .strip _ _ (fun h => ?_); simp_all; done) | exact .same _) .nil) rfl (by first | exact .inr ⟨rfl, rfl, rfl⟩ | exact .inl rfl) rfl (fun hG => slMax_ok n.kn n.kids (by rintro e; simp [e] at hG) ok2) rfl rfl (fun N hN => ?_)
    refine AOps.gread rfl rfl rfl rfl rfl (.cons 67 _ _ _ rfl (by first | exact .strip _ _ id | (refine .strip _ _ (fun h => ?_); simp_all; done) | exact .same _) .nil) (fun hG => ARead.binOp rfl rfl rfl rfl) rfl rfl ?_
    first | refine AOps.read (ARead.pickB rfl rfl rfl (by first | exact .strip _ _ id | (refine .strip _ _ (fun h => ?_); simp_all; done) | exact .same _) rfl (by first | exact .strip _ _ id | (refine .strip _ _ (fun h => ?_); simp_all; done) | exact .same _)) rfl rfl rfl ?_ | refine AOps.read (ARead.pick rfl rfl rfl) rfl rfl rfl ?_
    refine AOps.nil (hK12 _ _ _ ?_); clear hK12 K12
    refine AWp.keep [1, 69] rfl ?_
    refine AWp.cond rfl (fun hb13 => ?_) (fun hb13 => ?_)
    · have hc13 := hb13; clear hb13; try simp only [decide_eq_true_eq, decide_eq_false_iff_not, Bool.not_eq_true, Bool.not_eq_false, Int.not_lt, Int.not_le, Bool.not_eq_true', Bool.not_eq_false'] at hc13
      have hbad : nodeBadF n = true := hc13
      clear hc13
      have hfin : nodeCheckF n = 130 := by unfold nodeCheckF; rw [if_neg (by simp [hc4]), if_pos hbad]
      refine AWp.regK fun K14 hK14 => ?_
      refine AOps.read (ARead.assign rfl rfl) rfl rfl rfl ?_
      refine AOps.nil (hK14 _ _ _ ?_); clear hK14 K14
      refine AWp.keep [2] rfl ?_
      refine AWp.ret ?_
      refine ⟨Or.inr rfl, _, (.tmp _ _ _ _ rfl .nil), ?_⟩
      (try clear hK14 K14); (try clear hK13 K13); (try clear hK12 K12); (try clear hK11 K11); (try clear hK10 K10); (try clear hK9 K9); (try clear hK8 K8); (try clear hK7 K7); (try clear hK6 K6); (try clear hK5 K5); (try clear hK4 K4); (try clear hK3 K3); (try clear hK2 K2); (try clear hK1 K1)
      show packR _ = _
      simp only [packR]; rw [hfin]
    · have hc13 := hb13; clear hb13; try simp only [decide_eq_true_eq, decide_eq_false_iff_not, Bool.not_eq_true, Bool.not_eq_false, Int.not_lt, Int.not_le, Bool.not_eq_true', Bool.not_eq_false'] at hc13
      have hbad : nodeBadF n = false := hc13
      clear hc13
      obtain ⟨b1, b2, b3, b4, b5, b6, b7⟩ := nodeBad_false hbad
      refine AWp.skip (hK11 _ _ _ ?_); try clear hK11 K11
      refine AWp.keep [1] rfl ?_
      refine AWp.seqK fun K15 hK15 => ?_
      refine AWp.regK fun K16 hK16 => ?_
      refine AOps.read (ARead.fieldAddr tabOk rfl rfl rfl rfl (by decide) rfl) rfl rfl rfl ?_
      refine AOps.read (ARead.load tabOk rfl rfl rfl (by repeat (first | exact Has.head _ | apply Has.tail)) (by first | decide | omega) rfl rfl) rfl rfl rfl ?_
      first | refine AOps.read (ARead.lenSl tabOk rfl rfl rfl rfl rfl) rfl rfl rfl ?_ | refine AOps.read (ARead.lenRow tabOk rfl rfl rfl rfl) rfl rfl rfl ?_
      refine AOps.read (ARead.move rfl rfl) rfl rfl rfl ?_
      refine AOps.nil (hK16 _ _ _ ?_); clear hK16 K16
      refine AWp.keep [1, 71, 72, 73] rfl ?_
      refine AWp.block ?_
      refine AWp.loopP (α := Nat) [1, 71, 72, 73] (fun x N => [(1, .ptr N0 5 0 0), (71, strs n.vn n.pivots), (72, vi n.pivots.length), (73, vi x)]) (fun x N => [(N0, vr (ndC n))]) (fun x N => x ≤ n.pivots.length ∧ pivOkF (lastPiv n.pivots x) (n.pivots.drop x) = pivOkF none n.pivots) (fun x => n.pivots.length - x) (0) rfl (.cons _ _ _ _ _ _ (by repeat (first | exact Has.head _ | apply Has.tail)) (.nil _)) (⟨Nat.zero_le _, rfl⟩) (fun x N hN hg K18 hK18 => ?_)
      obtain ⟨hg1, hg2⟩ := hg
      refine AWp.regK fun K19 hK19 => ?_
      refine AOps.read (ARead.binOp rfl rfl rfl rfl) rfl rfl rfl ?_
      refine AOps.nil (hK19 _ _ _ ?_); clear hK19 K19
      refine AWp.keep [1, 71, 72, 73, 74] rfl ?_
      refine AWp.seqK fun K20 hK20 => ?_
      refine AWp.cond rfl (fun hb21 => ?_) (fun hb21 => ?_)
      · have hc21 := hb21; clear hb21; try simp only [decide_eq_true_eq, decide_eq_false_iff_not, Bool.not_eq_true, Bool.not_eq_false, Int.not_lt, Int.not_le, Bool.not_eq_true', Bool.not_eq_false'] at hc21
        have hlt : x < n.pivots.length := by omega
        rw [drop_getD [] hlt] at hg2
        simp only [pivOkF] at hg2
        refine AWp.skip (hK20 _ _ _ ?_); try clear hK20 K20
        refine AWp.keep [1, 71, 72, 73] rfl ?_
        refine AWp.seqK fun K22 hK22 => ?_
        refine AWp.block ?_
        refine AWp.regK fun K24 hK24 => ?_
        refine AOps.read (ARead.move rfl rfl) rfl rfl rfl ?_
        first | refine AOps.read (ARead.indexAddrF tabOk rfl rfl rfl rfl rfl rfl rfl (by omega) (by omega)) rfl rfl rfl ?_ | refine AOps.read (ARead.indexAddr tabOk rfl rfl rfl rfl rfl rfl rfl (by omega) (by omega)) rfl rfl rfl ?_ | refine AOps.read (ARead.indexAddrA tabOk rfl rfl rfl rfl rfl rfl rfl (by omega) (by omega)) rfl rfl rfl ?_
        first | refine AOps.read (ARead.loadF tabOk rfl rfl rfl rfl) rfl rfl rfl ?_ | refine AOps.read (ARead.load tabOk rfl rfl rfl (by repeat (first | exact Has.head _ | apply Has.tail)) (by first | decide | omega) rfl rfl) rfl rfl rfl ?_ | refine AOps.read (ARead.loadC tabOk rfl rfl rfl (by repeat (first | exact Has.head _ | apply Has.tail)) rfl rfl) rfl rfl rfl ?_
        refine AOps.read (ARead.assign rfl rfl) rfl rfl rfl ?_
        refine AOps.keep [1, 4, 71, 72, 73, 77] rfl ?_
        refine AOps.read (ARead.assign rfl rfl) rfl rfl rfl ?_
        refine AOps.nil (hK24 _ _ _ ?_); clear hK24 K24
        refine AWp.keep [1, 4, 5, 71, 72, 73] rfl ?_
        refine AWp.regK fun K25 hK25 => ?_
        refine AOps.read (ARead.move rfl rfl) rfl rfl rfl ?_
        refine AOps.pcall (checkKey_ok _) rfl (by first | exact .inr ⟨rfl, rfl, rfl⟩ | exact .inl rfl) rfl rfl rfl rfl (fun N hN => ?_)
        refine AOps.read (ARead.binOp rfl rfl rfl rfl) rfl rfl rfl ?_
        refine AOps.read (ARead.move rfl rfl) rfl rfl rfl ?_
        refine AOps.keep [1, 4, 5, 71, 72, 73, 81] rfl ?_
        refine AOps.gread rfl rfl rfl rfl rfl (.cons 4 _ _ _ rfl (by first | exact .strip _ _ id | (refine .strip _ _ (fun h => ?_); simp_all; done) | exact .same _) .nil) (fun hG => ARead.move rfl rfl) rfl rfl ?_
        refine AOps.gread rfl rfl rfl rfl rfl (.cons 82 _ _ _ rfl (by first | exact .strip _ _ id | (refine .strip _ _ (fun h => ?_); simp_all; done) | exact .same _) .nil) (fun hG => ARead.binOp rfl rfl rfl rfl) rfl rfl ?_
        refine AOps.gread rfl rfl rfl rfl rfl (.cons 83 _ _ _ rfl (by first | exact .strip _ _ id | (refine .strip _ _ (fun h => ?_); simp_all; done) | exact .same _) .nil) (fun hG => ARead.move rfl rfl) rfl rfl ?_
        refine AOps.gread rfl rfl rfl rfl rfl (.cons 1 _ _ _ rfl (by first | exact .strip _ _ id | (refine .strip _ _ (fun h => ?_); simp_all; done) | exact .same _) .nil) (fun hG => ARead.fieldAddr tabOk rfl rfl rfl rfl (by decide) rfl) rfl rfl ?_
        refine AOps.keep [1, 4, 5, 71, 72, 73, 81, 84, 85] rfl ?_
        refine AOps.gread rfl rfl rfl rfl rfl (.cons 85 _ _ _ rfl (by first | exact .strip _ _ id | (refine .strip _ _ (fun h => ?_); simp_all; done) | exact .same _) .nil) (fun hG => ARead.load tabOk rfl rfl rfl (by repeat (first | exact Has.head _ | apply Has.tail)) (by first | decide | omega) rfl rfl) rfl rfl ?_
        refine AOps.gread rfl rfl rfl rfl rfl (.cons 4 _ _ _ rfl (by first | exact .strip _ _ id | (refine .strip _ _ (fun h => ?_); simp_all; done) | exact .same _) .nil) (fun hG => ARead.move rfl rfl) rfl rfl ?_
        first | refine AOps.gread rfl rfl rfl rfl rfl (.cons 87 _ _ _ rfl (by first | exact .strip _ _ id | (refine .strip _ _ (fun h => ?_); simp_all; done) | exact .same _) .nil) (fun hG => ARead.binW rfl rfl rfl rfl (i64_ok (by first | omega | (simp at hG; omega)) (by first | omega | (simp at hG; omega)))) rfl rfl ?_ | refine AOps.gread rfl rfl rfl rfl rfl (.cons 87 _ _ _ rfl (by first | exact .strip _ _ id | (refine .strip _ _ (fun h => ?_); simp_all; done) | exact .same _) .nil) (fun hG => ARead.binOp rfl rfl rfl rfl) rfl rfl ?_
        first | refine AOps.gread rfl rfl rfl rfl rfl (.cons 86 _ _ _ rfl (by first | exact .strip _ _ id | (refine .strip _ _ (fun h => ?_); simp_all; done) | exact .same _) (.cons 88 _ _ _ rfl (by first | exact .strip _ _ id | (refine .strip _ _ (fun h => ?_); simp_all; done) | exact .same _) .nil)) (fun hG => ARead.indexAddrF tabOk rfl rfl rfl rfl rfl rfl rfl (by first | omega | (simp at hG; omega)) (by first | omega | (simp at hG; omega))) rfl rfl ?_ | refine AOps.gread rfl rfl rfl rfl rfl (.cons 86 _ _ _ rfl (by first | exact .strip _ _ id | (refine .strip _ _ (fun h => ?_); simp_all; done) | exact .same _) (.cons 88 _ _ _ rfl (by first | exact .strip _ _ id | (refine .strip _ _ (fun h => ?_); simp_all; done) | exact .same _) .nil)) (fun hG => ARead.indexAddr tabOk rfl rfl rfl rfl rfl rfl rfl (by first | omega | (simp at hG; omega)) (by first | omega | (simp at hG; omega))) rfl rfl ?_ | refine AOps.gread rfl rfl rfl rfl rfl (.cons 86 _ _ _ rfl (by first | exact .strip _ _ id | (refine .strip _ _ (fun h => ?_); simp_all; done) | exact .same _) (.cons 88 _ _ _ rfl (by first | exact .strip _ _ id | (refine .strip _ _ (fun h => ?_); simp_all; done) | exact .same _) .nil)) (fun hG => ARead.indexAddrA tabOk rfl rfl rfl rfl rfl rfl rfl (by first | omega | (simp at hG; omega)) (by first | omega | (simp at hG; omega))) rfl rfl ?_
        refine AOps.keep [1, 5, 71, 72, 73, 81, 84, 89] rfl ?_
        first | refine AOps.gread rfl rfl rfl rfl rfl (.cons 89 _ _ _ rfl (by first | exact .strip _ _ id | (refine .strip _ _ (fun h => ?_); simp_all; done) | exact .same _) .nil) (fun hG => ARead.loadF tabOk rfl rfl rfl rfl) rfl rfl ?_ | refine AOps.gread rfl rfl rfl rfl rfl (.cons 89 _ _ _ rfl (by first | exact .strip _ _ id | (refine .strip _ _ (fun h => ?_); simp_all; done) | exact .same _) .nil) (fun hG => ARead.load tabOk rfl rfl rfl (by repeat (first | exact Has.head _ | apply Has.tail)) (by first | decide | omega) rfl rfl) rfl rfl ?_ | refine AOps.gread rfl rfl rfl rfl rfl (.cons 89 _ _ _ rfl (by first | exact .strip _ _ id | (refine .strip _ _ (fun h => ?_); simp_all; done) | exact .same _) .nil) (fun hG => ARead.loadC tabOk rfl rfl rfl (by repeat (first | exact Has.head _ | apply Has.tail)) rfl rfl) rfl rfl ?_
        refine AOps.gread rfl rfl rfl rfl rfl (.cons 5 _ _ _ rfl (by first | exact .strip _ _ id | (refine .strip _ _ (fun h => ?_); simp_all; done) | exact .same _) .nil) (fun hG => ARead.move rfl rfl) rfl rfl ?_
        refine AOps.gread rfl rfl rfl rfl rfl (.cons 90 _ _ _ rfl (by first | exact .strip _ _ id | (refine .strip _ _ (fun h => ?_); simp_all; done) | exact .same _) (.cons 91 _ _ _ rfl (by first | exact .strip _ _ id | (refine .strip _ _ (fun h => ?_); simp_all; done) | exact .same _) .nil)) (fun hG => ARead.binOp rfl rfl rfl rfl) rfl rfl ?_
        first | refine AOps.gread rfl rfl rfl rfl rfl (.cons 84 _ _ _ rfl (by first | exact .strip _ _ id | (refine .strip _ _ (fun h => ?_); simp_all; done) | exact .same _) (.cons 92 _ _ _ rfl (by first | exact .strip _ _ id | (refine .strip _ _ (fun h => ?_); simp_all; done) | exact .same _) .nil)) (fun hG => ARead.pickB rfl rfl rfl (by first | exact .strip _ _ id | (refine .strip _ _ (fun h => ?_); simp_all; done) | exact .same _) rfl (by first | exact .strip _ _ id | (refine .strip _ _ (fun h => ?_); simp_all; done) | exact .same _)) rfl rfl ?_ | refine AOps.gread rfl rfl rfl rfl rfl (.cons 84 _ _ _ rfl (by first | exact .strip _ _ id | (refine .strip _ _ (fun h => ?_); simp_all; done) | exact .same _) (.cons 92 _ _ _ rfl (by first | exact .strip _ _ id | (refine .strip _ _ (fun h => ?_); simp_all; done) | exact .same _) .nil)) (fun hG => ARead.pick rfl rfl rfl) rfl rfl ?_
        refine AOps.keep [1, 71, 72, 73, 81, 93] rfl ?_
        first | refine AOps.read (ARead.pickB rfl rfl rfl (by first | exact .strip _ _ id | (refine .strip _ _ (fun h => ?_); simp_all; done) | exact .same _) rfl (by first | exact .strip _ _ id | (refine .strip _ _ (fun h => ?_); simp_all; done) | exact .same _)) rfl rfl rfl ?_ | refine AOps.read (ARead.pick rfl rfl rfl) rfl rfl rfl ?_
        refine AOps.nil (hK25 _ _ _ ?_); clear hK25 K25
        refine AWp.keep [1, 71, 72, 73, 94] rfl ?_
        refine AWp.cond rfl (fun hb26 => ?_) (fun hb26 => ?_)
        · have hc26 := hb26; clear hb26; try simp only [decide_eq_true_eq, decide_eq_false_iff_not, Bool.not_eq_true, Bool.not_eq_false, Int.not_lt, Int.not_le, Bool.not_eq_true', Bool.not_eq_false'] at hc26
          have hp : pivOkF none n.pivots = false := by have e : ((x : Int) - 1).toNat = x - 1 := (by omega); simp only [Int.toNat_natCast, e] at hc26; rw [← hg2]; exact pivOk_stop _ _ _ hc26
          have hfin : nodeCheckF n = 130 := by unfold nodeCheckF; rw [if_neg (by simp [hc4]), if_neg (by simp [hbad]), if_pos hp]
          refine AWp.regK fun K27 hK27 => ?_
          refine AOps.read (ARead.assign rfl rfl) rfl rfl rfl ?_
          refine AOps.nil (hK27 _ _ _ ?_); clear hK27 K27
          refine AWp.keep [2] rfl ?_
          refine AWp.ret ?_
          refine ⟨Or.inr rfl, _, (.tmp _ _ _ _ rfl .nil), ?_⟩
          (try clear hK27 K27); (try clear hK26 K26); (try clear hK25 K25); (try clear hK24 K24); (try clear hK23 K23); (try clear hK22 K22); (try clear hK21 K21); (try clear hK20 K20); (try clear hK19 K19); (try clear hK18 K18); (try clear hK17 K17); (try clear hK16 K16); (try clear hK15 K15); (try clear hK14 K14); (try clear hK13 K13); (try clear hK12 K12); (try clear hK11 K11); (try clear hK10 K10); (try clear hK9 K9); (try clear hK8 K8); (try clear hK7 K7); (try clear hK6 K6); (try clear hK5 K5); (try clear hK4 K4); (try clear hK3 K3); (try clear hK2 K2); (try clear hK1 K1)
          show packR _ = _
          simp only [packR]; rw [hfin]
        · have hc26 := hb26; clear hb26; try simp only [decide_eq_true_eq, decide_eq_false_iff_not, Bool.not_eq_true, Bool.not_eq_false, Int.not_lt, Int.not_le, Bool.not_eq_true', Bool.not_eq_false'] at hc26
          refine AWp.skip (hK22 _ _ _ ?_); try clear hK22 K22
          refine AWp.keep [1, 71, 72, 73] rfl ?_
          refine AWp.region ?_
          first | refine AOps.read (ARead.binW rfl rfl rfl rfl (i64_ok (by omega) (by omega))) rfl rfl rfl ?_ | refine AOps.read (ARead.binOp rfl rfl rfl rfl) rfl rfl rfl ?_
          refine AOps.read (ARead.move rfl rfl) rfl rfl rfl ?_
          (try clear hK27 K27); (try clear hK26 K26); (try clear hK25 K25); (try clear hK24 K24); (try clear hK23 K23); (try clear hK22 K22); (try clear hK21 K21); (try clear hK20 K20); (try clear hK19 K19); (try clear hK17 K17); (try clear hK16 K16); (try clear hK15 K15); (try clear hK14 K14); (try clear hK13 K13); (try clear hK12 K12); (try clear hK11 K11); (try clear hK10 K10); (try clear hK9 K9); (try clear hK8 K8); (try clear hK7 K7); (try clear hK6 K6); (try clear hK5 K5); (try clear hK4 K4); (try clear hK3 K3); (try clear hK2 K2); (try clear hK1 K1)
          refine AOps.nil (hK18 _ _ _ (x + 1) _ (by rfl) (.cons _ _ _ _ _ _ (by repeat (first | exact Has.head _ | apply Has.tail)) (.nil _)) (by have e : ((x : Int) - 1).toNat = x - 1 := (by omega); simp only [Int.toNat_natCast, e] at hc26; obtain ⟨g1, g2⟩ := pivOk_step _ _ hc26; refine ⟨by omega, ?_⟩; rw [← hg2, lastPiv_succ, g1, g2]; rfl) (by omega))
      · have hc21 := hb21; clear hb21; try simp only [decide_eq_true_eq, decide_eq_false_iff_not, Bool.not_eq_true, Bool.not_eq_false, Int.not_lt, Int.not_le, Bool.not_eq_true', Bool.not_eq_false'] at hc21
        rw [List.drop_of_length_le (by omega)] at hg2
        simp only [pivOkF] at hg2
        have hp : pivOkF none n.pivots = true := hg2.symm
        clear hg2 hg1
        refine AWp.exit (Or.inl ⟨rfl, (hK15 _ _ _ ?_)⟩); try clear hK15 K15
        refine AWp.keep [1] rfl ?_
        refine AWp.seqK fun K28 hK28 => ?_
        refine AWp.regK fun K29 hK29 => ?_
        refine AOps.read (ARead.fieldAddr tabOk rfl rfl rfl rfl (by decide) rfl) rfl rfl rfl ?_
        refine AOps.read (ARead.load tabOk rfl rfl rfl (by repeat (first | exact Has.head _ | apply Has.tail)) (by first | decide | omega) rfl rfl) rfl rfl rfl ?_
        first | refine AOps.read (ARead.lenSl tabOk rfl rfl rfl rfl rfl) rfl rfl rfl ?_ | refine AOps.read (ARead.lenRow tabOk rfl rfl rfl rfl) rfl rfl rfl ?_
        refine AOps.read (ARead.move rfl rfl) rfl rfl rfl ?_
        refine AOps.nil (hK29 _ _ _ ?_); clear hK29 K29
        refine AWp.keep [1, 97, 98, 99] rfl ?_
        refine AWp.block ?_
        refine AWp.loopP (α := Nat) [1, 97, 98, 99] (fun x N => [(1, .ptr N0 5 0 0), (97, bfs n.bn n.bufs), (98, vi n.bufs.length), (99, vi x)]) (fun x N => [(N0, vr (ndC n))]) (fun x N => x ≤ n.bufs.length ∧ bufsErrF (n.bufs.drop x) = bufsErrF n.bufs) (fun x => n.bufs.length - x) (0) rfl (.cons _ _ _ _ _ _ (by repeat (first | exact Has.head _ | apply Has.tail)) (.nil _)) (⟨Nat.zero_le _, rfl⟩) (fun x N hN hg K31 hK31 => ?_)
        obtain ⟨hg1, hg2⟩ := hg
        refine AWp.regK fun K32 hK32 => ?_
        refine AOps.read (ARead.binOp rfl rfl rfl rfl) rfl rfl rfl ?_
        refine AOps.nil (hK32 _ _ _ ?_); clear hK32 K32
        refine AWp.keep [1, 97, 98, 99, 100] rfl ?_
        refine AWp.seqK fun K33 hK33 => ?_
        refine AWp.cond rfl (fun hb34 => ?_) (fun hb34 => ?_)
        · have hc34 := hb34; clear hb34; try simp only [decide_eq_true_eq, decide_eq_false_iff_not, Bool.not_eq_true, Bool.not_eq_false, Int.not_lt, Int.not_le, Bool.not_eq_true', Bool.not_eq_false'] at hc34
          have hlt : x < n.bufs.length := by omega
          rw [drop_getD bf0 hlt] at hg2
          simp only [bufsErrF] at hg2
          refine AWp.skip (hK33 _ _ _ ?_); try clear hK33 K33
          refine AWp.keep [1, 97, 98, 99] rfl ?_
          refine AWp.seqK fun K35 hK35 => ?_
          refine AWp.block ?_
          refine AWp.regK fun K37 hK37 => ?_
          first | refine AOps.read (ARead.indexAddrF tabOk rfl rfl rfl rfl rfl rfl rfl (by omega) (by omega)) rfl rfl rfl ?_ | refine AOps.read (ARead.indexAddr tabOk rfl rfl rfl rfl rfl rfl rfl (by omega) (by omega)) rfl rfl rfl ?_ | refine AOps.read (ARead.indexAddrA tabOk rfl rfl rfl rfl rfl rfl rfl (by omega) (by omega)) rfl rfl rfl ?_
          first | refine AOps.read (ARead.loadF tabOk rfl rfl rfl rfl) rfl rfl rfl ?_ | refine AOps.read (ARead.load tabOk rfl rfl rfl (by repeat (first | exact Has.head _ | apply Has.tail)) (by first | decide | omega) rfl rfl) rfl rfl rfl ?_ | refine AOps.read (ARead.loadC tabOk rfl rfl rfl (by repeat (first | exact Has.head _ | apply Has.tail)) rfl rfl) rfl rfl rfl ?_
          refine AOps.read (ARead.assign rfl rfl) rfl rfl rfl ?_
          refine AOps.nil (hK37 _ _ _ ?_); clear hK37 K37
          refine AWp.keep [1, 7, 97, 98, 99] rfl ?_
          refine AWp.regK fun K38 hK38 => ?_
          refine AOps.read (ARead.move rfl rfl) rfl rfl rfl ?_
          refine AOps.pcall (bufCheck_ok (n.bufs.getD x bf0).nil (n.bufs.getD x bf0).l (ok5 _ (getD_mem hlt))) rfl (by first | exact .inr ⟨rfl, rfl, rfl⟩ | exact .inl rfl) rfl rfl rfl rfl (fun N hN => ?_)
          refine AOps.read (ARead.assign rfl rfl) rfl rfl rfl ?_
          refine AOps.nil (hK38 _ _ _ ?_); clear hK38 K38
          refine AWp.keep [1, 8, 97, 98, 99] rfl ?_
          refine AWp.regK fun K39 hK39 => ?_
          refine AOps.read (ARead.move rfl rfl) rfl rfl rfl ?_
          refine AOps.read (ARead.binOp rfl rfl rfl rfl) rfl rfl rfl ?_
          refine AOps.nil (hK39 _ _ _ ?_); clear hK39 K39
          refine AWp.keep [1, 8, 97, 98, 99, 106] rfl ?_
          refine AWp.cond rfl (fun hb40 => ?_) (fun hb40 => ?_)
          · have hc40 := hb40; clear hb40; try simp only [decide_eq_true_eq, decide_eq_false_iff_not, Bool.not_eq_true, Bool.not_eq_false, Int.not_lt, Int.not_le, Bool.not_eq_true', Bool.not_eq_false'] at hc40
            have hfin : nodeCheckF n = bufCheckF none (n.bufs.getD x bf0).l := by rw [if_pos hc40] at hg2; unfold nodeCheckF; rw [if_neg (by simp [hc4]), if_neg (by simp [hbad]), if_neg (by simp [hp]), ← hg2, if_pos hc40]
            refine AWp.regK fun K41 hK41 => ?_
            refine AOps.read (ARead.move rfl rfl) rfl rfl rfl ?_
            refine AOps.read (ARead.assign rfl rfl) rfl rfl rfl ?_
            refine AOps.nil (hK41 _ _ _ ?_); clear hK41 K41
            refine AWp.keep [2] rfl ?_
            refine AWp.ret ?_
            refine ⟨Or.inr rfl, _, (.tmp _ _ _ _ rfl .nil), ?_⟩
            (try clear hK41 K41); (try clear hK40 K40); (try clear hK39 K39); (try clear hK38 K38); (try clear hK37 K37); (try clear hK36 K36); (try clear hK35 K35); (try clear hK34 K34); (try clear hK33 K33); (try clear hK32 K32); (try clear hK31 K31); (try clear hK30 K30); (try clear hK29 K29); (try clear hK28 K28); (try clear hK27 K27); (try clear hK26 K26); (try clear hK25 K25); (try clear hK24 K24); (try clear hK23 K23); (try clear hK22 K22); (try clear hK21 K21); (try clear hK20 K20); (try clear hK19 K19); (try clear hK18 K18); (try clear hK17 K17); (try clear hK16 K16); (try clear hK15 K15); (try clear hK14 K14); (try clear hK13 K13); (try clear hK12 K12); (try clear hK11 K11); (try clear hK10 K10); (try clear hK9 K9); (try clear hK8 K8); (try clear hK7 K7); (try clear hK6 K6); (try clear hK5 K5); (try clear hK4 K4); (try clear hK3 K3); (try clear hK2 K2); (try clear hK1 K1)
            show packR _ = _
            simp only [packR]; rw [hfin]
          · have hc40 := hb40; clear hb40; try simp only [decide_eq_true_eq, decide_eq_false_iff_not, Bool.not_eq_true, Bool.not_eq_false, Int.not_lt, Int.not_le, Bool.not_eq_true', Bool.not_eq_false'] at hc40
            refine AWp.skip (hK35 _ _ _ ?_); try clear hK35 K35
            refine AWp.keep [1, 97, 98, 99] rfl ?_
            refine AWp.region ?_
            first | refine AOps.read (ARead.binW rfl rfl rfl rfl (i64_ok (by omega) (by omega))) rfl rfl rfl ?_ | refine AOps.read (ARead.binOp rfl rfl rfl rfl) rfl rfl rfl ?_
            refine AOps.read (ARead.move rfl rfl) rfl rfl rfl ?_
            (try clear hK41 K41); (try clear hK40 K40); (try clear hK39 K39); (try clear hK38 K38); (try clear hK37 K37); (try clear hK36 K36); (try clear hK35 K35); (try clear hK34 K34); (try clear hK33 K33); (try clear hK32 K32); (try clear hK30 K30); (try clear hK29 K29); (try clear hK28 K28); (try clear hK27 K27); (try clear hK26 K26); (try clear hK25 K25); (try clear hK24 K24); (try clear hK23 K23); (try clear hK22 K22); (try clear hK21 K21); (try clear hK20 K20); (try clear hK19 K19); (try clear hK18 K18); (try clear hK17 K17); (try clear hK16 K16); (try clear hK15 K15); (try clear hK14 K14); (try clear hK13 K13); (try clear hK12 K12); (try clear hK11 K11); (try clear hK10 K10); (try clear hK9 K9); (try clear hK8 K8); (try clear hK7 K7); (try clear hK6 K6); (try clear hK5 K5); (try clear hK4 K4); (try clear hK3 K3); (try clear hK2 K2); (try clear hK1 K1)
            refine AOps.nil (hK31 _ _ _ (x + 1) _ (by rfl) (.cons _ _ _ _ _ _ (by repeat (first | exact Has.head _ | apply Has.tail)) (.nil _)) (by refine ⟨by omega, ?_⟩; rw [← hg2, if_neg (by simpa using hc40)]) (by omega))
        · have hc34 := hb34; clear hb34; try simp only [decide_eq_true_eq, decide_eq_false_iff_not, Bool.not_eq_true, Bool.not_eq_false, Int.not_lt, Int.not_le, Bool.not_eq_true', Bool.not_eq_false'] at hc34
          rw [List.drop_of_length_le (by omega)] at hg2
          simp only [bufsErrF] at hg2
          have hbe : bufsErrF n.bufs = 0 := hg2.symm
          clear hg2 hg1
          refine AWp.exit (Or.inl ⟨rfl, (hK28 _ _ _ ?_)⟩); try clear hK28 K28
          refine AWp.keep [1] rfl ?_
          refine AWp.seqK fun K42 hK42 => ?_
          refine AWp.regK fun K43 hK43 => ?_
          refine AOps.read (ARead.fieldAddr tabOk rfl rfl rfl rfl (by decide) rfl) rfl rfl rfl ?_
          refine AOps.read (ARead.load tabOk rfl rfl rfl (by repeat (first | exact Has.head _ | apply Has.tail)) (by first | decide | omega) rfl rfl) rfl rfl rfl ?_
          first | refine AOps.read (ARead.lenSl tabOk rfl rfl rfl rfl rfl) rfl rfl rfl ?_ | refine AOps.read (ARead.lenRow tabOk rfl rfl rfl rfl) rfl rfl rfl ?_
          refine AOps.read (ARead.move rfl rfl) rfl rfl rfl ?_
          refine AOps.nil (hK43 _ _ _ ?_); clear hK43 K43
          refine AWp.keep [1, 110, 111, 112] rfl ?_
          refine AWp.block ?_
          refine AWp.loopP (α := Nat) [1, 110, 111, 112] (fun x N => [(1, .ptr N0 5 0 0), (110, bfs n.bn n.bufs), (111, vi n.bufs.length), (112, vi x)]) (fun x N => [(N0, vr (ndC n))]) (fun x N => x ≤ n.bufs.length ∧ anyOutF n.pivots x (n.bufs.drop x) = anyOutF n.pivots 0 n.bufs) (fun x => n.bufs.length - x) (0) rfl (.cons _ _ _ _ _ _ (by repeat (first | exact Has.head _ | apply Has.tail)) (.nil _)) (⟨Nat.zero_le _, rfl⟩) (fun x N hN hg K45 hK45 => ?_)
          obtain ⟨hg1, hg2⟩ := hg
          refine AWp.regK fun K46 hK46 => ?_
          refine AOps.read (ARead.binOp rfl rfl rfl rfl) rfl rfl rfl ?_
          refine AOps.nil (hK46 _ _ _ ?_); clear hK46 K46
          refine AWp.keep [1, 110, 111, 112, 113] rfl ?_
          refine AWp.seqK fun K47 hK47 => ?_
          refine AWp.cond rfl (fun hb48 => ?_) (fun hb48 => ?_)
          · have hc48 := hb48; clear hb48; try simp only [decide_eq_true_eq, decide_eq_false_iff_not, Bool.not_eq_true, Bool.not_eq_false, Int.not_lt, Int.not_le, Bool.not_eq_true', Bool.not_eq_false'] at hc48
            have hlt : x < n.bufs.length := by omega
            have hx1 : (x : Int) ≤ n.pivots.length := by omega
            rw [drop_getD bf0 hlt] at hg2
            simp only [anyOutF] at hg2
            refine AWp.skip (hK47 _ _ _ ?_); try clear hK47 K47
            refine AWp.keep [1, 110, 111, 112] rfl ?_
            refine AWp.seqK fun K49 hK49 => ?_
            refine AWp.block ?_
            refine AWp.regK fun K51 hK51 => ?_
            refine AOps.read (ARead.move rfl rfl) rfl rfl rfl ?_
            first | refine AOps.read (ARead.indexAddrF tabOk rfl rfl rfl rfl rfl rfl rfl (by omega) (by omega)) rfl rfl rfl ?_ | refine AOps.read (ARead.indexAddr tabOk rfl rfl rfl rfl rfl rfl rfl (by omega) (by omega)) rfl rfl rfl ?_ | refine AOps.read (ARead.indexAddrA tabOk rfl rfl rfl rfl rfl rfl rfl (by omega) (by omega)) rfl rfl rfl ?_
            first | refine AOps.read (ARead.loadF tabOk rfl rfl rfl rfl) rfl rfl rfl ?_ | refine AOps.read (ARead.load tabOk rfl rfl rfl (by repeat (first | exact Has.head _ | apply Has.tail)) (by first | decide | omega) rfl rfl) rfl rfl rfl ?_ | refine AOps.read (ARead.loadC tabOk rfl rfl rfl (by repeat (first | exact Has.head _ | apply Has.tail)) rfl rfl) rfl rfl rfl ?_
            refine AOps.op1 (AOp.alloc tabOk rfl rfl rfl) rfl rfl rfl ?_
            refine AOps.keep [1, 9, 110, 111, 112, 114, 116] rfl ?_
            first | refine AOps.op10 (AOp.storeC tabOk rfl rfl rfl rfl (by repeat (first | exact Has.head _ | apply Has.tail)) rfl (Nat.le_of_ble_eq_true rfl) rfl) rfl rfl ?_ | refine AOps.op10 (AOp.store tabOk rfl rfl rfl rfl (by repeat (first | exact Has.head _ | apply Has.tail)) (by first | decide | omega) rfl (by decide) rfl) rfl rfl ?_
            refine AOps.read (ARead.assign rfl rfl) rfl rfl rfl ?_
            refine AOps.nil (hK51 _ _ _ ?_); clear hK51 K51
            refine AWp.keep [1, 9, 10, 110, 111, 112] rfl ?_
            refine AWp.regK fun K52 hK52 => ?_
            refine AOps.read (ARead.move rfl rfl) rfl rfl rfl ?_
            refine AOps.read (ARead.makeFunc rfl rfl rfl) rfl rfl rfl ?_
            refine AOps.op (AOp.call rfl (.inr ⟨rfl, rfl, rfl⟩) rfl (hasEn_ok (n.bufs.getD x bf0).nil (n.bufs.getD x bf0).l (ok5 _ (getD_mem hlt)) _ _ _ _ _ _ (check1_tells n x (by omega) hx1 ok3 _ _ 0) (Nat.zero_le _))) rfl rfl rfl ?_
            rintro N1 r1 H1 hN1 ⟨rfl, rfl⟩
            refine AOps.nil (hK52 _ _ _ ?_); clear hK52 K52
            refine AWp.keep [1, 110, 111, 112, 119] rfl ?_
            refine AWp.cond rfl (fun hb53 => ?_) (fun hb53 => ?_)
            · have hc53 := hb53; clear hb53; try simp only [decide_eq_true_eq, decide_eq_false_iff_not, Bool.not_eq_true, Bool.not_eq_false, Int.not_lt, Int.not_le, Bool.not_eq_true', Bool.not_eq_false'] at hc53
              have hfin : nodeCheckF n = 130 := by have h53 : outF n.pivots x (n.bufs.getD x bf0) = true := hc53; rw [if_pos h53] at hg2; unfold nodeCheckF; rw [if_neg (by simp [hc4]), if_neg (by simp [hbad]), if_neg (by simp [hp]), if_neg (by simp [hbe]), if_pos hg2.symm]
              refine AWp.regK fun K54 hK54 => ?_
              refine AOps.read (ARead.assign rfl rfl) rfl rfl rfl ?_
              refine AOps.nil (hK54 _ _ _ ?_); clear hK54 K54
              refine AWp.keep [2] rfl ?_
              refine AWp.ret ?_
              refine ⟨Or.inr rfl, _, (.tmp _ _ _ _ rfl .nil), ?_⟩
              (try clear hK54 K54); (try clear hK53 K53); (try clear hK52 K52); (try clear hK51 K51); (try clear hK50 K50); (try clear hK49 K49); (try clear hK48 K48); (try clear hK47 K47); (try clear hK46 K46); (try clear hK45 K45); (try clear hK44 K44); (try clear hK43 K43); (try clear hK42 K42); (try clear hK41 K41); (try clear hK40 K40); (try clear hK39 K39); (try clear hK38 K38); (try clear hK37 K37); (try clear hK36 K36); (try clear hK35 K35); (try clear hK34 K34); (try clear hK33 K33); (try clear hK32 K32); (try clear hK31 K31); (try clear hK30 K30); (try clear hK29 K29); (try clear hK28 K28); (try clear hK27 K27); (try clear hK26 K26); (try clear hK25 K25); (try clear hK24 K24); (try clear hK23 K23); (try clear hK22 K22); (try clear hK21 K21); (try clear hK20 K20); (try clear hK19 K19); (try clear hK18 K18); (try clear hK17 K17); (try clear hK16 K16); (try clear hK15 K15); (try clear hK14 K14); (try clear hK13 K13); (try clear hK12 K12); (try clear hK11 K11); (try clear hK10 K10); (try clear hK9 K9); (try clear hK8 K8); (try clear hK7 K7); (try clear hK6 K6); (try clear hK5 K5); (try clear hK4 K4); (try clear hK3 K3); (try clear hK2 K2); (try clear hK1 K1)
              show packR _ = _
              simp only [packR]; rw [hfin]
            · have hc53 := hb53; clear hb53; try simp only [decide_eq_true_eq, decide_eq_false_iff_not, Bool.not_eq_true, Bool.not_eq_false, Int.not_lt, Int.not_le, Bool.not_eq_true', Bool.not_eq_false'] at hc53
              refine AWp.skip (hK49 _ _ _ ?_); try clear hK49 K49
              refine AWp.keep [1, 110, 111, 112] rfl ?_
              refine AWp.region ?_
              first | refine AOps.read (ARead.binW rfl rfl rfl rfl (i64_ok (by omega) (by omega))) rfl rfl rfl ?_ | refine AOps.read (ARead.binOp rfl rfl rfl rfl) rfl rfl rfl ?_
              refine AOps.read (ARead.move rfl rfl) rfl rfl rfl ?_
              (try clear hK54 K54); (try clear hK53 K53); (try clear hK52 K52); (try clear hK51 K51); (try clear hK50 K50); (try clear hK49 K49); (try clear hK48 K48); (try clear hK47 K47); (try clear hK46 K46); (try clear hK44 K44); (try clear hK43 K43); (try clear hK42 K42); (try clear hK41 K41); (try clear hK40 K40); (try clear hK39 K39); (try clear hK38 K38); (try clear hK37 K37); (try clear hK36 K36); (try clear hK35 K35); (try clear hK34 K34); (try clear hK33 K33); (try clear hK32 K32); (try clear hK31 K31); (try clear hK30 K30); (try clear hK29 K29); (try clear hK28 K28); (try clear hK27 K27); (try clear hK26 K26); (try clear hK25 K25); (try clear hK24 K24); (try clear hK23 K23); (try clear hK22 K22); (try clear hK21 K21); (try clear hK20 K20); (try clear hK19 K19); (try clear hK18 K18); (try clear hK17 K17); (try clear hK16 K16); (try clear hK15 K15); (try clear hK14 K14); (try clear hK13 K13); (try clear hK12 K12); (try clear hK11 K11); (try clear hK10 K10); (try clear hK9 K9); (try clear hK8 K8); (try clear hK7 K7); (try clear hK6 K6); (try clear hK5 K5); (try clear hK4 K4); (try clear hK3 K3); (try clear hK2 K2); (try clear hK1 K1)
              refine AOps.nil (hK45 _ _ _ (x + 1) _ (by rfl) (.cons _ _ _ _ _ _ (by repeat (first | exact Has.head _ | apply Has.tail)) (.nil _)) (by refine ⟨by omega, ?_⟩; rw [← hg2, if_neg (by have h53 : outF n.pivots x (n.bufs.getD x bf0) = false := hc53; rw [h53]; exact Bool.false_ne_true)]) (by omega))
          · have hc48 := hb48; clear hb48; try simp only [decide_eq_true_eq, decide_eq_false_iff_not, Bool.not_eq_true, Bool.not_eq_false, Int.not_lt, Int.not_le, Bool.not_eq_true', Bool.not_eq_false'] at hc48
            rw [List.drop_of_length_le (by omega)] at hg2
            simp only [anyOutF] at hg2
            have hfin : nodeCheckF n = 0 := by unfold nodeCheckF; rw [if_neg (by simp [hc4]), if_neg (by simp [hbad]), if_neg (by simp [hp]), if_neg (by simp [hbe]), ← hg2]; rfl
            refine AWp.exit (Or.inl ⟨rfl, (hK42 _ _ _ ?_)⟩); try clear hK42 K42
            refine AWp.keep [] rfl ?_
            refine AWp.regK fun K55 hK55 => ?_
            refine AOps.read (ARead.assign rfl rfl) rfl rfl rfl ?_
            refine AOps.nil (hK55 _ _ _ ?_); clear hK55 K55
            refine AWp.keep [2] rfl ?_
            refine AWp.ret ?_
            refine ⟨Or.inr rfl, _, (.tmp _ _ _ _ rfl .nil), ?_⟩
            (try clear hK55 K55); (try clear hK54 K54); (try clear hK53 K53); (try clear hK52 K52); (try clear hK51 K51); (try clear hK50 K50); (try clear hK49 K49); (try clear hK48 K48); (try clear hK47 K47); (try clear hK46 K46); (try clear hK45 K45); (try clear hK44 K44); (try clear hK43 K43); (try clear hK42 K42); (try clear hK41 K41); (try clear hK40 K40); (try clear hK39 K39); (try clear hK38 K38); (try clear hK37 K37); (try clear hK36 K36); (try clear hK35 K35); (try clear hK34 K34); (try clear hK33 K33); (try clear hK32 K32); (try clear hK31 K31); (try clear hK30 K30); (try clear hK29 K29); (try clear hK28 K28); (try clear hK27 K27); (try clear hK26 K26); (try clear hK25 K25); (try clear hK24 K24); (try clear hK23 K23); (try clear hK22 K22); (try clear hK21 K21); (try clear hK20 K20); (try clear hK19 K19); (try clear hK18 K18); (try clear hK17 K17); (try clear hK16 K16); (try clear hK15 K15); (try clear hK14 K14); (try clear hK13 K13); (try clear hK12 K12); (try clear hK11 K11); (try clear hK10 K10); (try clear hK9 K9); (try clear hK8 K8); (try clear hK7 K7); (try clear hK6 K6); (try clear hK5 K5); (try clear hK4 K4); (try clear hK3 K3); (try clear hK2 K2); (try clear hK1 K1)
            show packR _ = _
            simp only [packR]; rw [hfin]

end Go.Sl
