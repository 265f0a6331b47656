/- Walks of package node, two: least and greatest numbers, closures. No condition beside those in the statements. -/
import Derived.Test.YtfbagkifhpnfjaaNode1
namespace Go.Sl
open Go Go.Proofs 
set_option linter.unusedVariables false
set_option linter.unusedSimpArgs false
set_option maxRecDepth 20000
set_option maxHeartbeats 400000
def minF : List Int → Int
  | [] => 0
  | x :: l => l.foldl (fun a b => if b < a then b else a) x
def maxF : List Int → Int
  | [] => 0
  | x :: l => l.foldl (fun a b => if b > a then b else a) x
def idxF {α : Type} (p : α → Bool) : Nat → List α → Int
  | _, [] => -1
  | i, x :: l => if p x then i else idxF p (i + 1) l
theorem idxF_any {α : Type} (p : α → Bool) : ∀ (i : Nat) (l : List α), decide (0 ≤ idxF p i l) = l.any p
  | i, [] => by simp [idxF]
  | i, x :: l => by
    simp only [idxF, List.any_cons]
    by_cases h : p x = true
    · simp [h]
    · simp only [h, Bool.false_eq_true, if_false, idxF_any p (i + 1) l, Bool.false_or]

theorem slMin_ok (nil : Bool) (l : List Int) (hn : l ≠ []) (hl : l.length ≤ 1073741824) : APure Try.prog 79 [ints nil l] (vi (minF l)) := by
  refine APure.intro fun N0 => ?_
  have hpos : 0 < l.length := List.length_pos_iff.2 hn
  refine ACall.of_body tabOk (tab := tab) (fn := Try.f79) Try.func79 (by kernel_rfl) rfl (by simp [Try.f79]) ?_
  show AWp Try.prog 25 _ N0 [(0, ints nil l)] [] _
  refine AWp.regK fun K1 hK1 => ?_
  refine AOps.read (ARead.assign rfl rfl) rfl rfl rfl ?_
  refine AOps.nil (hK1 _ _ _ ?_); clear hK1 K1
  refine AWp.keep [0] rfl ?_
  refine AWp.seqK fun K2 hK2 => ?_
  refine AWp.regK fun K3 hK3 => ?_
  refine AOps.read (ARead.move rfl rfl) rfl rfl rfl ?_
  refine AOps.read (ARead.lenSl tabOk rfl rfl rfl rfl rfl) rfl rfl rfl ?_
  refine AOps.read (ARead.binOp rfl rfl rfl rfl) rfl rfl rfl ?_
  refine AOps.nil (hK3 _ _ _ ?_); clear hK3 K3
  refine AWp.keep [0, 7] rfl ?_
  refine AWp.cond rfl (fun hb4 => ?_) (fun hb4 => ?_)
  · exfalso; have hc4 := hb4; clear hb4; try simp only [decide_eq_true_eq, decide_eq_false_iff_not, Bool.not_eq_true, Bool.not_eq_false, Int.not_lt, Int.not_le, Bool.not_eq_true', Bool.not_eq_false'] at hc4
    omega
  · have hc4 := hb4; clear hb4; try simp only [decide_eq_true_eq, decide_eq_false_iff_not, Bool.not_eq_true, Bool.not_eq_false, Int.not_lt, Int.not_le, Bool.not_eq_true', Bool.not_eq_false'] at hc4
    refine AWp.skip (hK2 _ _ _ ?_); try clear hK2 K2
    refine AWp.keep [0] rfl ?_
    refine AWp.regK fun K5 hK5 => ?_
    refine AOps.read (ARead.move rfl rfl) rfl rfl rfl ?_
    refine AOps.read (ARead.indexAddrF tabOk rfl rfl rfl rfl rfl rfl rfl (by omega) (by omega)) rfl rfl rfl ?_
    refine AOps.read (ARead.loadF tabOk rfl rfl rfl rfl) rfl rfl rfl ?_
    refine AOps.read (ARead.assign rfl rfl) rfl rfl rfl ?_
    refine AOps.nil (hK5 _ _ _ ?_); clear hK5 K5
    refine AWp.keep [0, 3] rfl ?_
    refine AWp.seqK fun K6 hK6 => ?_
    refine AWp.regK fun K7 hK7 => ?_
    refine AOps.read (ARead.assign rfl rfl) rfl rfl rfl ?_
    refine AOps.nil (hK7 _ _ _ ?_); clear hK7 K7
    refine AWp.keep [0, 3, 4] rfl ?_
    refine AWp.block ?_
    refine AWp.loopP (α := Nat × Int) [0, 3, 4] (fun x N => [(0, ints nil l), (3, vi x.2), (4, vi x.1)]) (fun x N => []) (fun x N => 1 ≤ x.1 ∧ x.1 ≤ l.length ∧ (l.drop x.1).foldl (fun a b => if b < a then b else a) x.2 = minF l) (fun x => l.length - x.1) (1, l.getD 0 0) rfl (.nil _) (by obtain ⟨a, r, rfl⟩ := List.exists_cons_of_ne_nil hn; exact ⟨Nat.le_refl _, hpos, rfl⟩) (fun x N hN hg K9 hK9 => ?_)
    obtain ⟨hg0, hg1, hg2⟩ := hg
    refine AWp.seqK fun K10 hK10 => ?_
    refine AWp.regK fun K11 hK11 => ?_
    refine AOps.read (ARead.move rfl rfl) rfl rfl rfl ?_
    refine AOps.read (ARead.move rfl rfl) rfl rfl rfl ?_
    refine AOps.read (ARead.lenSl tabOk rfl rfl rfl rfl rfl) rfl rfl rfl ?_
    refine AOps.read (ARead.binOp rfl rfl rfl rfl) rfl rfl rfl ?_
    refine AOps.nil (hK11 _ _ _ ?_); clear hK11 K11
    refine AWp.keep [0, 3, 4, 15] rfl ?_
    refine AWp.cond rfl (fun hb12 => ?_) (fun hb12 => ?_)
    · have hc12 := hb12; clear hb12; try simp only [decide_eq_true_eq, decide_eq_false_iff_not, Bool.not_eq_true, Bool.not_eq_false, Int.not_lt, Int.not_le, Bool.not_eq_true', Bool.not_eq_false'] at hc12
      have hlt : x.1 < l.length := by omega
      rw [drop_getD 0 hlt, List.foldl_cons] at hg2
      refine AWp.skip (hK10 _ _ _ ?_); try clear hK10 K10
      refine AWp.keep [0, 3, 4] rfl ?_
      refine AWp.seqK fun K13 hK13 => ?_
      refine AWp.block ?_
      refine AWp.region ?_
      refine AOps.read (ARead.move rfl rfl) rfl rfl rfl ?_
      refine AOps.read (ARead.move rfl rfl) rfl rfl rfl ?_
      refine AOps.read (ARead.move rfl rfl) rfl rfl rfl ?_
      refine AOps.read (ARead.indexAddrF tabOk rfl rfl rfl rfl rfl rfl rfl (by omega) (by omega)) rfl rfl rfl ?_
      refine AOps.keep [0, 3, 4, 18, 21] rfl ?_
      refine AOps.read (ARead.loadF tabOk rfl rfl rfl rfl) rfl rfl rfl ?_
      refine AOps.read (ARead.max (mx := false) rfl rfl rfl rfl) rfl rfl rfl ?_
      refine AOps.read (ARead.assign rfl rfl) rfl rfl rfl ?_
      refine AOps.nil (hK13 _ _ _ ?_); try clear hK13 K13
      refine AWp.keep [0, 3, 4] rfl ?_
      refine AWp.region ?_
      refine AOps.read (ARead.move rfl rfl) rfl rfl rfl ?_
      first | refine AOps.read (ARead.binW rfl rfl rfl rfl (i64_ok (by omega) (by omega))) rfl rfl rfl ?_ | refine AOps.read (ARead.binOp rfl rfl rfl rfl) rfl rfl rfl ?_
      refine AOps.read (ARead.assign rfl rfl) rfl rfl rfl ?_
      (try clear hK14 K14); (try clear hK13 K13); (try clear hK12 K12); (try clear hK11 K11); (try clear hK10 K10); (try clear hK8 K8); (try clear hK7 K7); (try clear hK6 K6); (try clear hK5 K5); (try clear hK4 K4); (try clear hK3 K3); (try clear hK2 K2); (try clear hK1 K1)
      refine AOps.nil (hK9 _ _ _ (x.1 + 1, if l.getD x.1 0 < x.2 then l.getD x.1 0 else x.2) _ (by simp only [Int.toNat_natCast]; rfl) (.nil _) (by refine ⟨by omega, by omega, ?_⟩; rw [← hg2]) (by omega))
    · have hc12 := hb12; clear hb12; try simp only [decide_eq_true_eq, decide_eq_false_iff_not, Bool.not_eq_true, Bool.not_eq_false, Int.not_lt, Int.not_le, Bool.not_eq_true', Bool.not_eq_false'] at hc12
      rw [List.drop_of_length_le (by omega), List.foldl_nil] at hg2
      refine AWp.exit (Or.inl ⟨rfl, (hK6 _ _ _ ?_)⟩); try clear hK6 K6
      refine AWp.keep [3] rfl ?_
      refine AWp.regK fun K15 hK15 => ?_
      refine AOps.read (ARead.move rfl rfl) rfl rfl rfl ?_
      refine AOps.read (ARead.assign rfl rfl) rfl rfl rfl ?_
      refine AOps.nil (hK15 _ _ _ ?_); clear hK15 K15
      refine AWp.keep [2] rfl ?_
      refine AWp.ret ?_
      refine ⟨Or.inr rfl, _, (.tmp _ _ _ _ rfl .nil), ?_⟩
      (try clear hK15 K15); (try clear hK14 K14); (try clear hK13 K13); (try clear hK12 K12); (try clear hK11 K11); (try clear hK10 K10); (try clear hK9 K9); (try clear hK8 K8); (try clear hK7 K7); (try clear hK6 K6); (try clear hK5 K5); (try clear hK4 K4); (try clear hK3 K3); (try clear hK2 K2); (try clear hK1 K1)
      show packR _ = _
      simp only [packR]; rw [← hg2]

theorem slMax_ok (nil : Bool) (l : List Int) (hn : l ≠ []) (hl : l.length ≤ 1073741824) : APure Try.prog 80 [ints nil l] (vi (maxF l)) := by
  refine APure.intro fun N0 => ?_
  have hpos : 0 < l.length := List.length_pos_iff.2 hn
  refine ACall.of_body tabOk (tab := tab) (fn := Try.f80) Try.func80 (by kernel_rfl) rfl (by simp [Try.f80]) ?_
  show AWp Try.prog 25 _ N0 [(0, ints nil l)] [] _
  refine AWp.regK fun K1 hK1 => ?_
  refine AOps.read (ARead.assign rfl rfl) rfl rfl rfl ?_
  refine AOps.nil (hK1 _ _ _ ?_); clear hK1 K1
  refine AWp.keep [0] rfl ?_
  refine AWp.seqK fun K2 hK2 => ?_
  refine AWp.regK fun K3 hK3 => ?_
  refine AOps.read (ARead.move rfl rfl) rfl rfl rfl ?_
  refine AOps.read (ARead.lenSl tabOk rfl rfl rfl rfl rfl) rfl rfl rfl ?_
  refine AOps.read (ARead.binOp rfl rfl rfl rfl) rfl rfl rfl ?_
  refine AOps.nil (hK3 _ _ _ ?_); clear hK3 K3
  refine AWp.keep [0, 7] rfl ?_
  refine AWp.cond rfl (fun hb4 => ?_) (fun hb4 => ?_)
  · exfalso; have hc4 := hb4; clear hb4; try simp only [decide_eq_true_eq, decide_eq_false_iff_not, Bool.not_eq_true, Bool.not_eq_false, Int.not_lt, Int.not_le, Bool.not_eq_true', Bool.not_eq_false'] at hc4
    omega
  · have hc4 := hb4; clear hb4; try simp only [decide_eq_true_eq, decide_eq_false_iff_not, Bool.not_eq_true, Bool.not_eq_false, Int.not_lt, Int.not_le, Bool.not_eq_true', Bool.not_eq_false'] at hc4
    refine AWp.skip (hK2 _ _ _ ?_); try clear hK2 K2
    refine AWp.keep [0] rfl ?_
    refine AWp.regK fun K5 hK5 => ?_
    refine AOps.read (ARead.move rfl rfl) rfl rfl rfl ?_
    refine AOps.read (ARead.indexAddrF tabOk rfl rfl rfl rfl rfl rfl rfl (by omega) (by omega)) rfl rfl rfl ?_
    refine AOps.read (ARead.loadF tabOk rfl rfl rfl rfl) rfl rfl rfl ?_
    refine AOps.read (ARead.assign rfl rfl) rfl rfl rfl ?_
    refine AOps.nil (hK5 _ _ _ ?_); clear hK5 K5
    refine AWp.keep [0, 3] rfl ?_
    refine AWp.seqK fun K6 hK6 => ?_
    refine AWp.regK fun K7 hK7 => ?_
    refine AOps.read (ARead.assign rfl rfl) rfl rfl rfl ?_
    refine AOps.nil (hK7 _ _ _ ?_); clear hK7 K7
    refine AWp.keep [0, 3, 4] rfl ?_
    refine AWp.block ?_
    refine AWp.loopP (α := Nat × Int) [0, 3, 4] (fun x N => [(0, ints nil l), (3, vi x.2), (4, vi x.1)]) (fun x N => []) (fun x N => 1 ≤ x.1 ∧ x.1 ≤ l.length ∧ (l.drop x.1).foldl (fun a b => if b > a then b else a) x.2 = maxF l) (fun x => l.length - x.1) (1, l.getD 0 0) rfl (.nil _) (by obtain ⟨a, r, rfl⟩ := List.exists_cons_of_ne_nil hn; exact ⟨Nat.le_refl _, hpos, rfl⟩) (fun x N hN hg K9 hK9 => ?_)
    obtain ⟨hg0, hg1, hg2⟩ := hg
    refine AWp.seqK fun K10 hK10 => ?_
    refine AWp.regK fun K11 hK11 => ?_
    refine AOps.read (ARead.move rfl rfl) rfl rfl rfl ?_
    refine AOps.read (ARead.move rfl rfl) rfl rfl rfl ?_
    refine AOps.read (ARead.lenSl tabOk rfl rfl rfl rfl rfl) rfl rfl rfl ?_
    refine AOps.read (ARead.binOp rfl rfl rfl rfl) rfl rfl rfl ?_
    refine AOps.nil (hK11 _ _ _ ?_); clear hK11 K11
    refine AWp.keep [0, 3, 4, 15] rfl ?_
    refine AWp.cond rfl (fun hb12 => ?_) (fun hb12 => ?_)
    · have hc12 := hb12; clear hb12; try simp only [decide_eq_true_eq, decide_eq_false_iff_not, Bool.not_eq_true, Bool.not_eq_false, Int.not_lt, Int.not_le, Bool.not_eq_true', Bool.not_eq_false'] at hc12
      have hlt : x.1 < l.length := by omega
      rw [drop_getD 0 hlt, List.foldl_cons] at hg2
      refine AWp.skip (hK10 _ _ _ ?_); try clear hK10 K10
      refine AWp.keep [0, 3, 4] rfl ?_
      refine AWp.seqK fun K13 hK13 => ?_
      refine AWp.block ?_
      refine AWp.region ?_
      refine AOps.read (ARead.move rfl rfl) rfl rfl rfl ?_
      refine AOps.read (ARead.move rfl rfl) rfl rfl rfl ?_
      refine AOps.read (ARead.move rfl rfl) rfl rfl rfl ?_
      refine AOps.read (ARead.indexAddrF tabOk rfl rfl rfl rfl rfl rfl rfl (by omega) (by omega)) rfl rfl rfl ?_
      refine AOps.keep [0, 3, 4, 18, 21] rfl ?_
      refine AOps.read (ARead.loadF tabOk rfl rfl rfl rfl) rfl rfl rfl ?_
      refine AOps.read (ARead.max (mx := true) rfl rfl rfl rfl) rfl rfl rfl ?_
      refine AOps.read (ARead.assign rfl rfl) rfl rfl rfl ?_
      refine AOps.nil (hK13 _ _ _ ?_); try clear hK13 K13
      refine AWp.keep [0, 3, 4] rfl ?_
      refine AWp.region ?_
      refine AOps.read (ARead.move rfl rfl) rfl rfl rfl ?_
      first | refine AOps.read (ARead.binW rfl rfl rfl rfl (i64_ok (by omega) (by omega))) rfl rfl rfl ?_ | refine AOps.read (ARead.binOp rfl rfl rfl rfl) rfl rfl rfl ?_
      refine AOps.read (ARead.assign rfl rfl) rfl rfl rfl ?_
      (try clear hK14 K14); (try clear hK13 K13); (try clear hK12 K12); (try clear hK11 K11); (try clear hK10 K10); (try clear hK8 K8); (try clear hK7 K7); (try clear hK6 K6); (try clear hK5 K5); (try clear hK4 K4); (try clear hK3 K3); (try clear hK2 K2); (try clear hK1 K1)
      refine AOps.nil (hK9 _ _ _ (x.1 + 1, if l.getD x.1 0 > x.2 then l.getD x.1 0 else x.2) _ (by simp only [Int.toNat_natCast]; rfl) (.nil _) (by refine ⟨by omega, by omega, ?_⟩; rw [← hg2]) (by omega))
    · have hc12 := hb12; clear hb12; try simp only [decide_eq_true_eq, decide_eq_false_iff_not, Bool.not_eq_true, Bool.not_eq_false, Int.not_lt, Int.not_le, Bool.not_eq_true', Bool.not_eq_false'] at hc12
      rw [List.drop_of_length_le (by omega), List.foldl_nil] at hg2
      refine AWp.exit (Or.inl ⟨rfl, (hK6 _ _ _ ?_)⟩); try clear hK6 K6
      refine AWp.keep [3] rfl ?_
      refine AWp.regK fun K15 hK15 => ?_
      refine AOps.read (ARead.move rfl rfl) rfl rfl rfl ?_
      refine AOps.read (ARead.assign rfl rfl) rfl rfl rfl ?_
      refine AOps.nil (hK15 _ _ _ ?_); clear hK15 K15
      refine AWp.keep [2] rfl ?_
      refine AWp.ret ?_
      refine ⟨Or.inr rfl, _, (.tmp _ _ _ _ rfl .nil), ?_⟩
      (try clear hK15 K15); (try clear hK14 K14); (try clear hK13 K13); (try clear hK12 K12); (try clear hK11 K11); (try clear hK10 K10); (try clear hK9 K9); (try clear hK8 K8); (try clear hK7 K7); (try clear hK6 K6); (try clear hK5 K5); (try clear hK4 K4); (try clear hK3 K3); (try clear hK2 K2); (try clear hK1 K1)
      show packR _ = _
      simp only [packR]; rw [← hg2]

/-- A function value that tells of an entry, and leaves the heap as it was. -/
def TellsEn (g : FuncId) (cap : List AV) (H : Heap) (p : En → Bool) (N0 : Nat) : Prop := ∀ (N : Nat) (x : En), N0 ≤ N → ACall Try.prog g (AV.agg (enA x) :: cap) N H fun _ r H' => r = vb (p x) ∧ H' = H

theorem idxEn_ok (nil : Bool) (l : List En) (hl : l.length ≤ 1073741824) (g : FuncId) (cap : List AV) (H : Heap) (p : En → Bool) (N0 N : Nat) (hf : TellsEn g cap H p N0) (hN0 : N0 ≤ N) : ACall Try.prog 129 [ens nil l, .fn (.func g) [] cap] N H (fun _ r H' => r = vi (idxF p 0 l) ∧ H' = H) := by
  refine ACall.of_body tabOk (tab := tab) (fn := Try.f129) Try.func129 (by kernel_rfl) rfl (by simp [Try.f129]) ?_
  show AWp Try.prog 19 _ N [(0, ens nil l), (1, .fn (.func g) [] cap)] H _
  refine AWp.regK fun K1 hK1 => ?_
  refine AOps.read (ARead.assign rfl rfl) rfl rfl rfl ?_
  refine AOps.nil (hK1 _ _ _ ?_); clear hK1 K1
  refine AWp.keep [0, 1] rfl ?_
  refine AWp.seqK fun K2 hK2 => ?_
  refine AWp.regK fun K3 hK3 => ?_
  refine AOps.read (ARead.move rfl rfl) rfl rfl rfl ?_
  refine AOps.read (ARead.lenSl tabOk rfl rfl rfl rfl rfl) rfl rfl rfl ?_
  refine AOps.read (ARead.move rfl rfl) rfl rfl rfl ?_
  refine AOps.nil (hK3 _ _ _ ?_); clear hK3 K3
  refine AWp.keep [0, 1, 7, 8] rfl ?_
  refine AWp.block ?_
  refine AWp.loopP (α := Nat) [0, 1, 7, 8] (fun x N => [(0, ens nil l), (1, .fn (.func g) [] cap), (7, vi l.length), (8, vi x)]) (fun x N => H) (fun x N => x ≤ l.length ∧ idxF p x (l.drop x) = idxF p 0 l ∧ N0 ≤ N) (fun x => l.length - x) (0) rfl (take_all _) (⟨Nat.zero_le _, rfl, hN0⟩) (fun x N hN hg K5 hK5 => ?_)
  obtain ⟨hg1, hg2, hg3⟩ := hg
  refine AWp.regK fun K6 hK6 => ?_
  refine AOps.read (ARead.binOp rfl rfl rfl rfl) rfl rfl rfl ?_
  refine AOps.nil (hK6 _ _ _ ?_); clear hK6 K6
  refine AWp.keep [0, 1, 7, 8, 9] rfl ?_
  refine AWp.seqK fun K7 hK7 => ?_
  refine AWp.cond rfl (fun hb8 => ?_) (fun hb8 => ?_)
  · have hc8 := hb8; clear hb8; try simp only [decide_eq_true_eq, decide_eq_false_iff_not, Bool.not_eq_true, Bool.not_eq_false, Int.not_lt, Int.not_le, Bool.not_eq_true', Bool.not_eq_false'] at hc8
    have hlt : x < l.length := by omega
    rw [drop_getD en0 hlt] at hg2
    simp only [idxF] at hg2
    refine AWp.skip (hK7 _ _ _ ?_); try clear hK7 K7
    refine AWp.keep [0, 1, 7, 8] rfl ?_
    refine AWp.seqK fun K9 hK9 => ?_
    refine AWp.block ?_
    refine AWp.regK fun K11 hK11 => ?_
    refine AOps.read (ARead.move rfl rfl) rfl rfl rfl ?_
    refine AOps.read (ARead.assign rfl rfl) rfl rfl rfl ?_
    refine AOps.nil (hK11 _ _ _ ?_); clear hK11 K11
    refine AWp.keep [0, 1, 5, 7, 8] rfl ?_
    refine AWp.regK fun K12 hK12 => ?_
    refine AOps.read (ARead.move rfl rfl) rfl rfl rfl ?_
    refine AOps.read (ARead.move rfl rfl) rfl rfl rfl ?_
    refine AOps.read (ARead.move rfl rfl) rfl rfl rfl ?_
    refine AOps.read (ARead.indexAddrF tabOk rfl rfl rfl rfl rfl rfl rfl (by omega) (by omega)) rfl rfl rfl ?_
    refine AOps.keep [0, 1, 5, 7, 8, 11, 14] rfl ?_
    refine AOps.read (ARead.loadF tabOk rfl rfl rfl rfl) rfl rfl rfl ?_
    refine AOps.op (AOp.call rfl (.inl rfl) rfl (hf _ (l.getD x en0) (by omega))) rfl rfl rfl ?_
    rintro N1 r1 H1 hN1 ⟨rfl, rfl⟩
    refine AOps.nil (hK12 _ _ _ ?_); clear hK12 K12
    refine AWp.keep [0, 1, 5, 7, 8, 16] rfl ?_
    refine AWp.cond rfl (fun hb13 => ?_) (fun hb13 => ?_)
    · have hc13 := hb13; clear hb13; try simp only [decide_eq_true_eq, decide_eq_false_iff_not, Bool.not_eq_true, Bool.not_eq_false, Int.not_lt, Int.not_le, Bool.not_eq_true', Bool.not_eq_false'] at hc13
      refine AWp.regK fun K14 hK14 => ?_
      refine AOps.read (ARead.move rfl rfl) rfl rfl rfl ?_
      refine AOps.read (ARead.assign rfl rfl) rfl rfl rfl ?_
      refine AOps.nil (hK14 _ _ _ ?_); clear hK14 K14
      refine AWp.keep [4] rfl ?_
      refine AWp.ret ?_
      refine ⟨Or.inr rfl, _, (.tmp _ _ _ _ rfl .nil), ?_⟩
      (try clear hK14 K14); (try clear hK13 K13); (try clear hK12 K12); (try clear hK11 K11); (try clear hK10 K10); (try clear hK9 K9); (try clear hK8 K8); (try clear hK7 K7); (try clear hK6 K6); (try clear hK5 K5); (try clear hK4 K4); (try clear hK3 K3); (try clear hK2 K2); (try clear hK1 K1)
      refine ⟨?_, rfl⟩; show packR _ = _; simp only [packR]; (try rw [← hg2]); try (first | rfl | simp_all)
    · have hc13 := hb13; clear hb13; try simp only [decide_eq_true_eq, decide_eq_false_iff_not, Bool.not_eq_true, Bool.not_eq_false, Int.not_lt, Int.not_le, Bool.not_eq_true', Bool.not_eq_false'] at hc13
      refine AWp.skip (hK9 _ _ _ ?_); try clear hK9 K9
      refine AWp.keep [0, 1, 7, 8] rfl ?_
      refine AWp.region ?_
      first | refine AOps.read (ARead.binW rfl rfl rfl rfl (i64_ok (by omega) (by omega))) rfl rfl rfl ?_ | refine AOps.read (ARead.binOp rfl rfl rfl rfl) rfl rfl rfl ?_
      refine AOps.read (ARead.move rfl rfl) rfl rfl rfl ?_
      (try clear hK14 K14); (try clear hK13 K13); (try clear hK12 K12); (try clear hK11 K11); (try clear hK10 K10); (try clear hK9 K9); (try clear hK8 K8); (try clear hK7 K7); (try clear hK6 K6); (try clear hK4 K4); (try clear hK3 K3); (try clear hK2 K2); (try clear hK1 K1)
      refine AOps.nil (hK5 _ _ _ (x + 1) _ (by rfl) (take_all _) (by refine ⟨by omega, ?_, by omega⟩; rw [← hg2, hc13]; rfl) (by omega))
  · have hc8 := hb8; clear hb8; try simp only [decide_eq_true_eq, decide_eq_false_iff_not, Bool.not_eq_true, Bool.not_eq_false, Int.not_lt, Int.not_le, Bool.not_eq_true', Bool.not_eq_false'] at hc8
    rw [List.drop_of_length_le (by omega)] at hg2
    simp only [idxF] at hg2
    refine AWp.exit (Or.inl ⟨rfl, (hK2 _ _ _ ?_)⟩); try clear hK2 K2
    refine AWp.keep [] rfl ?_
    refine AWp.regK fun K15 hK15 => ?_
    refine AOps.read (ARead.assign rfl rfl) rfl rfl rfl ?_
    refine AOps.nil (hK15 _ _ _ ?_); clear hK15 K15
    refine AWp.keep [4] rfl ?_
    refine AWp.ret ?_
    refine ⟨Or.inr rfl, _, (.tmp _ _ _ _ rfl .nil), ?_⟩
    (try clear hK15 K15); (try clear hK14 K14); (try clear hK13 K13); (try clear hK12 K12); (try clear hK11 K11); (try clear hK10 K10); (try clear hK9 K9); (try clear hK8 K8); (try clear hK7 K7); (try clear hK6 K6); (try clear hK5 K5); (try clear hK4 K4); (try clear hK3 K3); (try clear hK2 K2); (try clear hK1 K1)
    refine ⟨?_, rfl⟩; show packR _ = _; simp only [packR]; (try rw [← hg2]); try (first | rfl | simp_all)

end Go.Sl
