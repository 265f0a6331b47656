/- The walk of the reference 13: whole. No condition beside those in the statements. -/
import Derived.Test.YtfbagkifhpnfjaaRef4
namespace Go.Sl
open Go Go.Proofs 
set_option linter.unusedVariables false
set_option linter.unusedSimpArgs false
set_option maxRecDepth 20000
set_option maxHeartbeats 400000
theorem rnum_nat (bs : List UInt8) (k : Nat) (h1 : k < 9223372036854775808) (hb : bs.length + (numF k).length ≤ 1073741824) (m N : Nat) : ACall Try.prog 133 [.row m false (bytesA bs).length, vi k] N [(m, .row 1 false (bytesA bs))] fun _ r H' => GivesB (bs ++ numF k) r H' :=
  rnum_gives bs k (by omega) (by omega) hb m N
theorem entB_two {e : En} (h : e.op.kind = 2) : entB e = numF e.seq.toNat ++ [UInt8.ofNat e.op.kind.toNat] ++ textF e.op.key ++ textF e.op.val := by simp [entB, opTexts, h, textsF]
theorem entB_three {e : En} (h : e.op.kind = 3) : entB e = numF e.seq.toNat ++ [UInt8.ofNat e.op.kind.toNat] ++ textF e.op.key := by simp [entB, opTexts, h, textsF]
theorem entB_five {e : En} (h : e.op.kind = 5) : entB e = numF e.seq.toNat ++ [UInt8.ofNat e.op.kind.toNat] ++ textF e.op.lo ++ textF e.op.hi := by simp [entB, opTexts, h, textsF]

theorem rwhole_ok (n : Nd) (ok : WholeOk n) (N0 : Nat) : ACall Try.prog 86 [ndA n] N0 [] (fun _ r H' => ∃ H1 Hx, Take H1 H' Hx ∧ GivesB (wholeF n) r H1) := by
  obtain ⟨⟨okp, hpairs⟩, ⟨okk, hkids⟩, ⟨okv, hpiv⟩, ⟨okb, hbufs⟩, oklen⟩ := ok
  refine ACall.of_body tabOk (tab := tab) (fn := Try.f86) Try.func86 (by kernel_rfl) rfl (by simp [Try.f86]) ?_
  show AWp Try.prog 127 _ N0 [(0, ndA n)] [] _
  refine AWp.regK fun K1 hK1 => ?_
  refine AOps.op1 (AOp.box rfl rfl rfl) rfl rfl rfl ?_
  refine AOps.read (ARead.assign rfl rfl) rfl rfl rfl ?_
  refine AOps.nil (hK1 _ _ _ ?_); clear hK1 K1
  refine AWp.keep [1] rfl ?_
  refine AWp.seqK fun K2 hK2 => ?_
  refine AWp.regK fun K3 hK3 => ?_
  refine AOps.read (ARead.fieldAddr tabOk rfl rfl rfl rfl (by decide) rfl) rfl rfl rfl ?_
  refine AOps.read (ARead.load tabOk rfl rfl rfl (by repeat (first | exact Has.head _ | apply Has.tail)) (by first | decide | omega) rfl rfl) rfl rfl rfl ?_
  refine AOps.nil (hK3 _ _ _ ?_); clear hK3 K3
  refine AWp.keep [1, 16] rfl ?_
  refine AWp.cond rfl (fun hb4 => ?_) (fun hb4 => ?_)
  · have hc4 := hb4; clear hb4; try simp only [decide_eq_true_eq, decide_eq_false_iff_not, Bool.not_eq_true, Bool.not_eq_false, Int.not_lt, Int.not_le, Bool.not_eq_true', Bool.not_eq_false'] at hc4
    have hw : wholeF n = [1] ++ numF n.pairs.length ++ n.pairs.flatMap pairB := by unfold wholeF; rw [if_pos hc4]
    have hwl := congrArg List.length hw
    simp only [List.length_append, List.length_cons, List.length_nil] at hwl
    refine AWp.regK fun K5 hK5 => ?_
    refine AOps.op1 (AOp.buildSliceC tabOk rfl rfl rfl rfl rfl rfl rfl rfl rfl (by decide) (by decide)) rfl rfl rfl ?_
    refine AOps.ghost (Ghost.closeRow (els := bytesA [1]) [17] ⟨rfl, trivial⟩ (by repeat (first | exact Has.head _ | apply Has.tail)) rfl (by decide) (by decide) (by decide) (by intro i hi; obtain rfl : i = 0 := (by omega); rfl) ?_)
    refine AOps.read (ARead.fieldAddr tabOk rfl rfl rfl rfl (by decide) rfl) rfl rfl rfl ?_
    refine AOps.read (ARead.load tabOk rfl rfl rfl (by repeat (first | exact Has.head _ | apply Has.tail)) (by first | decide | omega) rfl rfl) rfl rfl rfl ?_
    first | refine AOps.read (ARead.lenSl tabOk rfl rfl rfl rfl rfl) rfl rfl rfl ?_ | refine AOps.read (ARead.lenRow tabOk rfl rfl rfl rfl) rfl rfl rfl ?_
    refine AOps.keep [1, 17, 20] rfl ?_
    refine AOps.op ((AOp.call rfl (.inr ⟨rfl, rfl, rfl⟩) rfl (rnum_nat [1] n.pairs.length (by omega) (by simp only [List.length_cons, List.length_nil]; omega) _ _)).frame (.cons _ _ _ _ _ _ (by repeat (first | exact Has.head _ | apply Has.tail)) (.nil _))) rfl rfl rfl ?_
    rintro N1 r1 H1 hN1 ⟨H1x, ⟨m1, rfl, rfl⟩, rfl⟩
    refine AOps.read (ARead.assign rfl rfl) rfl rfl rfl ?_
    refine AOps.nil (hK5 _ _ _ ?_); clear hK5 K5
    refine AWp.keep [1, 3] rfl ?_
    refine AWp.seqK fun K6 hK6 => ?_
    refine AWp.regK fun K7 hK7 => ?_
    refine AOps.read (ARead.fieldAddr tabOk rfl rfl rfl rfl (by decide) rfl) rfl rfl rfl ?_
    refine AOps.read (ARead.load tabOk rfl rfl rfl (by repeat (first | exact Has.head _ | apply Has.tail)) (by first | decide | omega) rfl rfl) rfl rfl rfl ?_
    first | refine AOps.read (ARead.lenSl tabOk rfl rfl rfl rfl rfl) rfl rfl rfl ?_ | refine AOps.read (ARead.lenRow tabOk rfl rfl rfl rfl) rfl rfl rfl ?_
    refine AOps.read (ARead.move rfl rfl) rfl rfl rfl ?_
    refine AOps.nil (hK7 _ _ _ ?_); clear hK7 K7
    refine AWp.keep [3, 23, 24, 25] rfl ?_
    refine AWp.block ?_
    refine AWp.loopP (α := Nat × Nat × List UInt8) [3, 23, 24, 25] (fun x N => [(3, .row x.2.1 false (bytesA x.2.2).length), (23, prs n.pn n.pairs), (24, vi n.pairs.length), (25, vi x.1)]) (fun x N => [(x.2.1, .row 1 false (bytesA x.2.2))]) (fun x N => x.1 ≤ n.pairs.length ∧ x.2.2 ++ (n.pairs.drop x.1).flatMap pairB = wholeF n) (fun x => n.pairs.length - x.1) (0, m1, [1] ++ numF n.pairs.length) rfl (.cons _ _ _ _ _ _ (by repeat (first | exact Has.head _ | apply Has.tail)) (.nil _)) (⟨Nat.zero_le _, hw.symm⟩) (fun x N hN hg K9 hK9 => ?_)
    obtain ⟨hg1, hg2⟩ := hg
    refine AWp.regK fun K10 hK10 => ?_
    refine AOps.read (ARead.binOp rfl rfl rfl rfl) rfl rfl rfl ?_
    refine AOps.nil (hK10 _ _ _ ?_); clear hK10 K10
    refine AWp.keep [3, 23, 24, 25, 26] rfl ?_
    refine AWp.seqK fun K11 hK11 => ?_
    refine AWp.cond rfl (fun hb12 => ?_) (fun hb12 => ?_)
    · have hc12 := hb12; clear hb12; try simp only [decide_eq_true_eq, decide_eq_false_iff_not, Bool.not_eq_true, Bool.not_eq_false, Int.not_lt, Int.not_le, Bool.not_eq_true', Bool.not_eq_false'] at hc12
      have hlt : x.1 < n.pairs.length := by omega
      rw [drop_getD pr0 hlt, List.flatMap_cons] at hg2
      have hgl := congrArg List.length hg2
      simp only [List.length_append] at hgl
      have hpl : (pairB (n.pairs.getD x.1 pr0)).length = (textF (n.pairs.getD x.1 pr0).key).length + (textF (n.pairs.getD x.1 pr0).val).length := by simp [pairB, textsF]
      refine AWp.skip (hK11 _ _ _ ?_); try clear hK11 K11
      refine AWp.keep [3, 23, 24, 25] rfl ?_
      refine AWp.seqK fun K13 hK13 => ?_
      refine AWp.block ?_
      refine AWp.regK fun K15 hK15 => ?_
      first | refine AOps.read (ARead.indexAddrF tabOk rfl rfl rfl rfl rfl rfl rfl (by omega) (by omega)) rfl rfl rfl ?_ | refine AOps.read (ARead.indexAddr tabOk rfl rfl rfl rfl rfl rfl rfl (by omega) (by omega)) rfl rfl rfl ?_ | refine AOps.read (ARead.indexAddrA tabOk rfl rfl rfl rfl rfl rfl rfl (by omega) (by omega)) rfl rfl rfl ?_
      first | refine AOps.read (ARead.loadF tabOk rfl rfl rfl rfl) rfl rfl rfl ?_ | refine AOps.read (ARead.load tabOk rfl rfl rfl (by repeat (first | exact Has.head _ | apply Has.tail)) (by first | decide | omega) rfl rfl) rfl rfl rfl ?_ | refine AOps.read (ARead.loadC tabOk rfl rfl rfl (by repeat (first | exact Has.head _ | apply Has.tail)) rfl rfl) rfl rfl rfl ?_
      refine AOps.op1 (AOp.alloc tabOk rfl rfl rfl) rfl rfl rfl ?_
      first | refine AOps.op10 (AOp.storeC tabOk rfl rfl rfl rfl (by repeat (first | exact Has.head _ | apply Has.tail)) rfl (Nat.le_of_ble_eq_true rfl) rfl) rfl rfl ?_ | refine AOps.op10 (AOp.store tabOk rfl rfl rfl rfl (by repeat (first | exact Has.head _ | apply Has.tail)) (by first | decide | omega) rfl (by decide) rfl) rfl rfl ?_
      refine AOps.nil (hK15 _ _ _ ?_); clear hK15 K15
      refine AWp.keep [3, 5, 23, 24, 25] rfl ?_
      refine AWp.drawn mixed (.cons _ _ _ _ _ _ (.head _) (.nil _)) ?_
      refine AAny.take 0 (ARead.move rfl rfl) rfl (by kernel_rfl) (by kernel_rfl) (by kernel_rfl) rfl rfl rfl ?_
      refine AAny.take 1 (ARead.fieldAddr tabOk rfl rfl rfl rfl (by decide) rfl) rfl (by kernel_rfl) (by kernel_rfl) (by kernel_rfl) rfl rfl rfl ?_
      refine AAny.keep [5, 29, 30] [3, 5, 23, 24, 25, 29, 30] rfl rfl ?_
      refine AAny.take 2 (ARead.load tabOk rfl rfl rfl (by repeat (first | exact Has.head _ | apply Has.tail)) (by first | decide | omega) rfl rfl) rfl (by kernel_rfl) (by kernel_rfl) (by kernel_rfl) rfl rfl rfl ?_
      refine AAny.take 4 (ARead.fieldAddr tabOk rfl rfl rfl rfl (by decide) rfl) rfl (by kernel_rfl) (by kernel_rfl) (by kernel_rfl) rfl rfl rfl ?_
      refine AAny.take 5 (ARead.load tabOk rfl rfl rfl (by repeat (first | exact Has.head _ | apply Has.tail)) (by first | decide | omega) rfl rfl) rfl (by kernel_rfl) (by kernel_rfl) (by kernel_rfl) rfl rfl rfl ?_
      refine AAny.keep [29, 31, 34] [3, 23, 24, 25, 29, 31, 34] rfl rfl ?_
      refine AAny.one 3 (by kernel_rfl) ?_
      refine AStep.opd ((AOp.call rfl (.inr ⟨rfl, rfl, rfl⟩) rfl (rtext_gives (x.2.2) (n.pairs.getD x.1 pr0).key (hpairs _ (getD_mem hlt)).1 (by (try simp only [List.length_append, List.length_cons, List.length_nil] at *); omega) _ _)).frame (.cons _ _ _ _ _ _ (by repeat (first | exact Has.head _ | apply Has.tail)) (.nil _))) rfl rfl rfl rfl ?_
      rintro N2 r2 H2 hN2 ⟨H2x, ⟨m2, rfl, rfl⟩, rfl⟩
      refine AAny.one 6 (by kernel_rfl) ?_
      refine AStep.opd ((AOp.call rfl (.inr ⟨rfl, rfl, rfl⟩) rfl (rtext_gives (x.2.2 ++ textF (n.pairs.getD x.1 pr0).key) (n.pairs.getD x.1 pr0).val (hpairs _ (getD_mem hlt)).2 (by (try simp only [List.length_append, List.length_cons, List.length_nil] at *); omega) _ _)).frame (.cons _ _ _ _ _ _ (by repeat (first | exact Has.head _ | apply Has.tail)) (.nil _))) rfl rfl rfl rfl ?_
      rintro N3 r3 H3 hN3 ⟨H3x, ⟨m3, rfl, rfl⟩, rfl⟩
      refine AAny.one 7 (by kernel_rfl) ?_
      refine AStep.read (ARead.assign rfl rfl) rfl rfl rfl rfl ?_
      refine AAny.done (by kernel_rfl) (hK13 _ _ _ ?_); try clear hK13 K13
      refine AWp.keep [3, 23, 24, 25] rfl ?_
      refine AWp.region ?_
      first | refine AOps.read (ARead.binW rfl rfl rfl rfl (i64_ok (by omega) (by omega))) rfl rfl rfl ?_ | refine AOps.read (ARead.binOp rfl rfl rfl rfl) rfl rfl rfl ?_
      refine AOps.read (ARead.move rfl rfl) rfl rfl rfl ?_
      (try clear hK15 K15); (try clear hK14 K14); (try clear hK13 K13); (try clear hK12 K12); (try clear hK11 K11); (try clear hK10 K10); (try clear hK8 K8); (try clear hK7 K7); (try clear hK6 K6); (try clear hK5 K5); (try clear hK4 K4); (try clear hK3 K3); (try clear hK2 K2); (try clear hK1 K1)
      refine AOps.nil (hK9 _ _ _ (x.1 + 1, m3, x.2.2 ++ textF (n.pairs.getD x.1 pr0).key ++ textF (n.pairs.getD x.1 pr0).val) _ (by rfl) (.cons _ _ _ _ _ _ (by repeat (first | exact Has.head _ | apply Has.tail)) (.nil _)) (⟨by omega, by rw [← hg2]; simp [pairB, textsF, List.append_assoc]⟩) (by show _ - (x.1 + 1) < _; omega))
    · have hc12 := hb12; clear hb12; try simp only [decide_eq_true_eq, decide_eq_false_iff_not, Bool.not_eq_true, Bool.not_eq_false, Int.not_lt, Int.not_le, Bool.not_eq_true', Bool.not_eq_false'] at hc12
      rw [List.drop_of_length_le (by omega), List.flatMap_nil, List.append_nil] at hg2
      have hend : x.2.2 = wholeF n := hg2
      refine AWp.exit (Or.inl ⟨rfl, (hK6 _ _ _ ?_)⟩); try clear hK6 K6
      refine AWp.keep [3] rfl ?_
      refine AWp.regK fun K16 hK16 => ?_
      refine AOps.read (ARead.move rfl rfl) rfl rfl rfl ?_
      refine AOps.read (ARead.assign rfl rfl) rfl rfl rfl ?_
      refine AOps.nil (hK16 _ _ _ ?_); clear hK16 K16
      refine AWp.keep [2] rfl ?_
      refine AWp.ret ?_
      refine ⟨Or.inr rfl, _, (.tmp _ _ _ _ rfl .nil), ?_⟩
      (try clear hK16 K16); (try clear hK15 K15); (try clear hK14 K14); (try clear hK13 K13); (try clear hK12 K12); (try clear hK11 K11); (try clear hK10 K10); (try clear hK9 K9); (try clear hK8 K8); (try clear hK7 K7); (try clear hK6 K6); (try clear hK5 K5); (try clear hK4 K4); (try clear hK3 K3); (try clear hK2 K2); (try clear hK1 K1)
      rw [hend]
      exact ⟨_, _, .cons _ _ _ _ _ _ (.head _) (.nil _), _, rfl, rfl⟩
  · have hc4 := hb4; clear hb4; try simp only [decide_eq_true_eq, decide_eq_false_iff_not, Bool.not_eq_true, Bool.not_eq_false, Int.not_lt, Int.not_le, Bool.not_eq_true', Bool.not_eq_false'] at hc4
    have hw : wholeF n = [2] ++ numF n.kids.length ++ n.kids.flatMap kidB ++ textsF n.pivots ++ n.bufs.flatMap bufB := by unfold wholeF; rw [if_neg (by simp [hc4])]
    have hwl := congrArg List.length hw
    simp only [List.length_append, List.length_cons, List.length_nil] at hwl
    refine AWp.skip (hK2 _ _ _ ?_); try clear hK2 K2
    refine AWp.keep [1] rfl ?_
    refine AWp.regK fun K17 hK17 => ?_
    refine AOps.op1 (AOp.buildSliceC tabOk rfl rfl rfl rfl rfl rfl rfl rfl rfl (by decide) (by decide)) rfl rfl rfl ?_
    refine AOps.ghost (Ghost.closeRow (els := bytesA [2]) [38] ⟨rfl, trivial⟩ (by repeat (first | exact Has.head _ | apply Has.tail)) rfl (by decide) (by decide) (by decide) (by intro i hi; obtain rfl : i = 0 := (by omega); rfl) ?_)
    refine AOps.read (ARead.fieldAddr tabOk rfl rfl rfl rfl (by decide) rfl) rfl rfl rfl ?_
    refine AOps.read (ARead.load tabOk rfl rfl rfl (by repeat (first | exact Has.head _ | apply Has.tail)) (by first | decide | omega) rfl rfl) rfl rfl rfl ?_
    first | refine AOps.read (ARead.lenSl tabOk rfl rfl rfl rfl rfl) rfl rfl rfl ?_ | refine AOps.read (ARead.lenRow tabOk rfl rfl rfl rfl) rfl rfl rfl ?_
    refine AOps.keep [1, 38, 41] rfl ?_
    refine AOps.op ((AOp.call rfl (.inr ⟨rfl, rfl, rfl⟩) rfl (rnum_nat [2] n.kids.length (by omega) (by simp only [List.length_cons, List.length_nil]; omega) _ _)).frame (.cons _ _ _ _ _ _ (by repeat (first | exact Has.head _ | apply Has.tail)) (.nil _))) rfl rfl rfl ?_
    rintro N4 r4 H4 hN4 ⟨H4x, ⟨m4, rfl, rfl⟩, rfl⟩
    refine AOps.read (ARead.assign rfl rfl) rfl rfl rfl ?_
    refine AOps.nil (hK17 _ _ _ ?_); clear hK17 K17
    refine AWp.keep [1, 6] rfl ?_
    refine AWp.seqK fun K18 hK18 => ?_
    refine AWp.regK fun K19 hK19 => ?_
    refine AOps.read (ARead.fieldAddr tabOk rfl rfl rfl rfl (by decide) rfl) rfl rfl rfl ?_
    refine AOps.read (ARead.load tabOk rfl rfl rfl (by repeat (first | exact Has.head _ | apply Has.tail)) (by first | decide | omega) rfl rfl) rfl rfl rfl ?_
    first | refine AOps.read (ARead.lenSl tabOk rfl rfl rfl rfl rfl) rfl rfl rfl ?_ | refine AOps.read (ARead.lenRow tabOk rfl rfl rfl rfl) rfl rfl rfl ?_
    refine AOps.read (ARead.move rfl rfl) rfl rfl rfl ?_
    refine AOps.nil (hK19 _ _ _ ?_); clear hK19 K19
    refine AWp.keep [1, 6, 44, 45, 46] rfl ?_
    refine AWp.block ?_
    refine AWp.loopP (α := Nat × Nat × List UInt8) [1, 6, 44, 45, 46] (fun x N => [(1, .ptr N0 5 0 0), (6, .row x.2.1 false (bytesA x.2.2).length), (44, ints n.kn n.kids), (45, vi n.kids.length), (46, vi x.1)]) (fun x N => [(x.2.1, .row 1 false (bytesA x.2.2)), (N0, vr (ndC n))]) (fun x N => x.1 ≤ n.kids.length ∧ x.2.2 ++ (n.kids.drop x.1).flatMap kidB ++ textsF n.pivots ++ n.bufs.flatMap bufB = wholeF n) (fun x => n.kids.length - x.1) (0, m4, [2] ++ numF n.kids.length) rfl (.cons _ _ _ _ _ _ (by repeat (first | exact Has.head _ | apply Has.tail)) (.cons _ _ _ _ _ _ (by repeat (first | exact Has.head _ | apply Has.tail)) (.nil _))) (⟨Nat.zero_le _, hw.symm⟩) (fun x N hN hg K21 hK21 => ?_)
    obtain ⟨hg1, hg2⟩ := hg
    refine AWp.regK fun K22 hK22 => ?_
    refine AOps.read (ARead.binOp rfl rfl rfl rfl) rfl rfl rfl ?_
    refine AOps.nil (hK22 _ _ _ ?_); clear hK22 K22
    refine AWp.keep [1, 6, 44, 45, 46, 47] rfl ?_
    refine AWp.seqK fun K23 hK23 => ?_
    refine AWp.cond rfl (fun hb24 => ?_) (fun hb24 => ?_)
    · have hc24 := hb24; clear hb24; try simp only [decide_eq_true_eq, decide_eq_false_iff_not, Bool.not_eq_true, Bool.not_eq_false, Int.not_lt, Int.not_le, Bool.not_eq_true', Bool.not_eq_false'] at hc24
      have hlt : x.1 < n.kids.length := by omega
      have hk0 := hkids _ (getD_mem (d := 0) hlt)
      rw [drop_getD 0 hlt, List.flatMap_cons] at hg2
      have hgl := congrArg List.length hg2
      simp only [List.length_append] at hgl
      refine AWp.skip (hK23 _ _ _ ?_); try clear hK23 K23
      refine AWp.keep [1, 6, 44, 45, 46] rfl ?_
      refine AWp.seqK fun K25 hK25 => ?_
      refine AWp.block ?_
      refine AWp.regK fun K27 hK27 => ?_
      first | refine AOps.read (ARead.indexAddrF tabOk rfl rfl rfl rfl rfl rfl rfl (by omega) (by omega)) rfl rfl rfl ?_ | refine AOps.read (ARead.indexAddr tabOk rfl rfl rfl rfl rfl rfl rfl (by omega) (by omega)) rfl rfl rfl ?_ | refine AOps.read (ARead.indexAddrA tabOk rfl rfl rfl rfl rfl rfl rfl (by omega) (by omega)) rfl rfl rfl ?_
      first | refine AOps.read (ARead.loadF tabOk rfl rfl rfl rfl) rfl rfl rfl ?_ | refine AOps.read (ARead.load tabOk rfl rfl rfl (by repeat (first | exact Has.head _ | apply Has.tail)) (by first | decide | omega) rfl rfl) rfl rfl rfl ?_ | refine AOps.read (ARead.loadC tabOk rfl rfl rfl (by repeat (first | exact Has.head _ | apply Has.tail)) rfl rfl) rfl rfl rfl ?_
      refine AOps.read (ARead.assign rfl rfl) rfl rfl rfl ?_
      refine AOps.nil (hK27 _ _ _ ?_); clear hK27 K27
      refine AWp.keep [1, 6, 8, 44, 45, 46] rfl ?_
      refine AWp.region ?_
      refine AOps.read (ARead.move rfl rfl) rfl rfl rfl ?_
      refine AOps.read (ARead.move rfl rfl) rfl rfl rfl ?_
      refine AOps.op ((AOp.call rfl (.inr ⟨rfl, rfl, rfl⟩) rfl (rnum_gives x.2.2 (n.kids.getD x.1 0) hk0.1 (by omega) (by simp only [kidB] at hgl; omega) _ _)).frame (.cons _ _ _ _ _ _ (by repeat (first | exact Has.head _ | apply Has.tail)) (.nil _))) rfl rfl rfl ?_
      rintro N5 r5 H5 hN5 ⟨H5x, ⟨m5, rfl, rfl⟩, rfl⟩
      refine AOps.read (ARead.assign rfl rfl) rfl rfl rfl ?_
      refine AOps.nil (hK25 _ _ _ ?_); try clear hK25 K25
      refine AWp.keep [1, 6, 44, 45, 46] rfl ?_
      refine AWp.region ?_
      first | refine AOps.read (ARead.binW rfl rfl rfl rfl (i64_ok (by omega) (by omega))) rfl rfl rfl ?_ | refine AOps.read (ARead.binOp rfl rfl rfl rfl) rfl rfl rfl ?_
      refine AOps.read (ARead.move rfl rfl) rfl rfl rfl ?_
      (try clear hK27 K27); (try clear hK26 K26); (try clear hK25 K25); (try clear hK24 K24); (try clear hK23 K23); (try clear hK22 K22); (try clear hK20 K20); (try clear hK19 K19); (try clear hK18 K18); (try clear hK17 K17); (try clear hK16 K16); (try clear hK15 K15); (try clear hK14 K14); (try clear hK13 K13); (try clear hK12 K12); (try clear hK11 K11); (try clear hK10 K10); (try clear hK9 K9); (try clear hK8 K8); (try clear hK7 K7); (try clear hK6 K6); (try clear hK5 K5); (try clear hK4 K4); (try clear hK3 K3); (try clear hK2 K2); (try clear hK1 K1)
      refine AOps.nil (hK21 _ _ _ (x.1 + 1, m5, x.2.2 ++ numF (n.kids.getD x.1 0).toNat) _ (by rfl) (.cons _ _ _ _ _ _ (by repeat (first | exact Has.head _ | apply Has.tail)) (.cons _ _ _ _ _ _ (by repeat (first | exact Has.head _ | apply Has.tail)) (.nil _))) (⟨by omega, by rw [← hg2]; simp only [List.append_assoc]; rfl⟩) (by show _ - (x.1 + 1) < _; omega))
    · have hc24 := hb24; clear hb24; try simp only [decide_eq_true_eq, decide_eq_false_iff_not, Bool.not_eq_true, Bool.not_eq_false, Int.not_lt, Int.not_le, Bool.not_eq_true', Bool.not_eq_false'] at hc24
      rw [List.drop_of_length_le (by omega), List.flatMap_nil, List.append_nil] at hg2
      have hgl := congrArg List.length hg2
      simp only [List.length_append] at hgl
      refine AWp.exit (Or.inl ⟨rfl, (hK18 _ _ _ ?_)⟩); try clear hK18 K18
      refine AWp.keep [1, 6] rfl ?_
      refine AWp.seqK fun K28 hK28 => ?_
      refine AWp.regK fun K29 hK29 => ?_
      refine AOps.read (ARead.fieldAddr tabOk rfl rfl rfl rfl (by decide) rfl) rfl rfl rfl ?_
      refine AOps.read (ARead.load tabOk rfl rfl rfl (by repeat (first | exact Has.head _ | apply Has.tail)) (by first | decide | omega) rfl rfl) rfl rfl rfl ?_
      first | refine AOps.read (ARead.lenSl tabOk rfl rfl rfl rfl rfl) rfl rfl rfl ?_ | refine AOps.read (ARead.lenRow tabOk rfl rfl rfl rfl) rfl rfl rfl ?_
      refine AOps.read (ARead.move rfl rfl) rfl rfl rfl ?_
      refine AOps.nil (hK29 _ _ _ ?_); clear hK29 K29
      refine AWp.keep [1, 6, 55, 56, 57] rfl ?_
      refine AWp.block ?_
      refine AWp.loopP (α := Nat × Nat × List UInt8) [1, 6, 55, 56, 57] (fun x N => [(1, .ptr N0 5 0 0), (6, .row x.2.1 false (bytesA x.2.2).length), (55, strs n.vn n.pivots), (56, vi n.pivots.length), (57, vi x.1)]) (fun x N => [(x.2.1, .row 1 false (bytesA x.2.2)), (N0, vr (ndC n))]) (fun x N => x.1 ≤ n.pivots.length ∧ x.2.2 ++ textsF (n.pivots.drop x.1) ++ n.bufs.flatMap bufB = wholeF n) (fun x => n.pivots.length - x.1) (0, x.2.1, x.2.2) rfl (.cons _ _ _ _ _ _ (by repeat (first | exact Has.head _ | apply Has.tail)) (.cons _ _ _ _ _ _ (by repeat (first | exact Has.head _ | apply Has.tail)) (.nil _))) (⟨Nat.zero_le _, hg2⟩) (fun x N hN hg K31 hK31 => ?_)
      obtain ⟨hg1, hg2⟩ := hg
      refine AWp.regK fun K32 hK32 => ?_
      refine AOps.read (ARead.binOp rfl rfl rfl rfl) rfl rfl rfl ?_
      refine AOps.nil (hK32 _ _ _ ?_); clear hK32 K32
      refine AWp.keep [1, 6, 55, 56, 57, 58] rfl ?_
      refine AWp.seqK fun K33 hK33 => ?_
      refine AWp.cond rfl (fun hb34 => ?_) (fun hb34 => ?_)
      · have hc34 := hb34; clear hb34; try simp only [decide_eq_true_eq, decide_eq_false_iff_not, Bool.not_eq_true, Bool.not_eq_false, Int.not_lt, Int.not_le, Bool.not_eq_true', Bool.not_eq_false'] at hc34
        have hlt : x.1 < n.pivots.length := by omega
        rw [drop_getD [] hlt, textsF, List.flatMap_cons, ← textsF] at hg2
        have hgl := congrArg List.length hg2
        simp only [List.length_append] at hgl
        refine AWp.skip (hK33 _ _ _ ?_); try clear hK33 K33
        refine AWp.keep [1, 6, 55, 56, 57] rfl ?_
        refine AWp.seqK fun K35 hK35 => ?_
        refine AWp.block ?_
        refine AWp.regK fun K37 hK37 => ?_
        first | refine AOps.read (ARead.indexAddrF tabOk rfl rfl rfl rfl rfl rfl rfl (by omega) (by omega)) rfl rfl rfl ?_ | refine AOps.read (ARead.indexAddr tabOk rfl rfl rfl rfl rfl rfl rfl (by omega) (by omega)) rfl rfl rfl ?_ | refine AOps.read (ARead.indexAddrA tabOk rfl rfl rfl rfl rfl rfl rfl (by omega) (by omega)) rfl rfl rfl ?_
        first | refine AOps.read (ARead.loadF tabOk rfl rfl rfl rfl) rfl rfl rfl ?_ | refine AOps.read (ARead.load tabOk rfl rfl rfl (by repeat (first | exact Has.head _ | apply Has.tail)) (by first | decide | omega) rfl rfl) rfl rfl rfl ?_ | refine AOps.read (ARead.loadC tabOk rfl rfl rfl (by repeat (first | exact Has.head _ | apply Has.tail)) rfl rfl) rfl rfl rfl ?_
        refine AOps.read (ARead.assign rfl rfl) rfl rfl rfl ?_
        refine AOps.nil (hK37 _ _ _ ?_); clear hK37 K37
        refine AWp.keep [1, 6, 10, 55, 56, 57] rfl ?_
        refine AWp.region ?_
        refine AOps.read (ARead.move rfl rfl) rfl rfl rfl ?_
        refine AOps.read (ARead.move rfl rfl) rfl rfl rfl ?_
        refine AOps.op ((AOp.call rfl (.inr ⟨rfl, rfl, rfl⟩) rfl (rtext_gives (x.2.2) (n.pivots.getD x.1 []) (hpiv _ (getD_mem hlt)) (by (try simp only [List.length_append, List.length_cons, List.length_nil] at *); omega) _ _)).frame (.cons _ _ _ _ _ _ (by repeat (first | exact Has.head _ | apply Has.tail)) (.nil _))) rfl rfl rfl ?_
        rintro N6 r6 H6 hN6 ⟨H6x, ⟨m6, rfl, rfl⟩, rfl⟩
        refine AOps.read (ARead.assign rfl rfl) rfl rfl rfl ?_
        refine AOps.nil (hK35 _ _ _ ?_); try clear hK35 K35
        refine AWp.keep [1, 6, 55, 56, 57] rfl ?_
        refine AWp.region ?_
        first | refine AOps.read (ARead.binW rfl rfl rfl rfl (i64_ok (by omega) (by omega))) rfl rfl rfl ?_ | refine AOps.read (ARead.binOp rfl rfl rfl rfl) rfl rfl rfl ?_
        refine AOps.read (ARead.move rfl rfl) rfl rfl rfl ?_
        (try clear hK37 K37); (try clear hK36 K36); (try clear hK35 K35); (try clear hK34 K34); (try clear hK33 K33); (try clear hK32 K32); (try clear hK30 K30); (try clear hK29 K29); (try clear hK28 K28); (try clear hK27 K27); (try clear hK26 K26); (try clear hK25 K25); (try clear hK24 K24); (try clear hK23 K23); (try clear hK22 K22); (try clear hK21 K21); (try clear hK20 K20); (try clear hK19 K19); (try clear hK18 K18); (try clear hK17 K17); (try clear hK16 K16); (try clear hK15 K15); (try clear hK14 K14); (try clear hK13 K13); (try clear hK12 K12); (try clear hK11 K11); (try clear hK10 K10); (try clear hK9 K9); (try clear hK8 K8); (try clear hK7 K7); (try clear hK6 K6); (try clear hK5 K5); (try clear hK4 K4); (try clear hK3 K3); (try clear hK2 K2); (try clear hK1 K1)
        refine AOps.nil (hK31 _ _ _ (x.1 + 1, m6, x.2.2 ++ textF (n.pivots.getD x.1 [])) _ (by rfl) (.cons _ _ _ _ _ _ (by repeat (first | exact Has.head _ | apply Has.tail)) (.cons _ _ _ _ _ _ (by repeat (first | exact Has.head _ | apply Has.tail)) (.nil _))) (⟨by omega, by rw [← hg2]; simp only [List.append_assoc]⟩) (by show _ - (x.1 + 1) < _; omega))
      · have hc34 := hb34; clear hb34; try simp only [decide_eq_true_eq, decide_eq_false_iff_not, Bool.not_eq_true, Bool.not_eq_false, Int.not_lt, Int.not_le, Bool.not_eq_true', Bool.not_eq_false'] at hc34
        rw [List.drop_of_length_le (by omega), textsF, List.flatMap_nil, List.append_nil] at hg2
        have hgl := congrArg List.length hg2
        simp only [List.length_append] at hgl
        refine AWp.exit (Or.inl ⟨rfl, (hK28 _ _ _ ?_)⟩); try clear hK28 K28
        refine AWp.keep [1, 6] rfl ?_
        refine AWp.seqK fun K38 hK38 => ?_
        refine AWp.regK fun K39 hK39 => ?_
        refine AOps.read (ARead.fieldAddr tabOk rfl rfl rfl rfl (by decide) rfl) rfl rfl rfl ?_
        refine AOps.read (ARead.load tabOk rfl rfl rfl (by repeat (first | exact Has.head _ | apply Has.tail)) (by first | decide | omega) rfl rfl) rfl rfl rfl ?_
        first | refine AOps.read (ARead.lenSl tabOk rfl rfl rfl rfl rfl) rfl rfl rfl ?_ | refine AOps.read (ARead.lenRow tabOk rfl rfl rfl rfl) rfl rfl rfl ?_
        refine AOps.read (ARead.move rfl rfl) rfl rfl rfl ?_
        refine AOps.nil (hK39 _ _ _ ?_); clear hK39 K39
        refine AWp.keep [6, 66, 67, 68] rfl ?_
        refine AWp.block ?_
        refine AWp.loopP (α := Nat × Nat × List UInt8) [6, 66, 67, 68] (fun x N => [(6, .row x.2.1 false (bytesA x.2.2).length), (66, bfs n.bn n.bufs), (67, vi n.bufs.length), (68, vi x.1)]) (fun x N => [(x.2.1, .row 1 false (bytesA x.2.2))]) (fun x N => x.1 ≤ n.bufs.length ∧ x.2.2 ++ (n.bufs.drop x.1).flatMap bufB = wholeF n) (fun x => n.bufs.length - x.1) (0, x.2.1, x.2.2) rfl (.cons _ _ _ _ _ _ (by repeat (first | exact Has.head _ | apply Has.tail)) (.nil _)) (⟨Nat.zero_le _, hg2⟩) (fun x N hN hg K41 hK41 => ?_)
        obtain ⟨hg1, hg2⟩ := hg
        refine AWp.regK fun K42 hK42 => ?_
        refine AOps.read (ARead.binOp rfl rfl rfl rfl) rfl rfl rfl ?_
        refine AOps.nil (hK42 _ _ _ ?_); clear hK42 K42
        refine AWp.keep [6, 66, 67, 68, 69] rfl ?_
        refine AWp.seqK fun K43 hK43 => ?_
        refine AWp.cond rfl (fun hb44 => ?_) (fun hb44 => ?_)
        · have hc44 := hb44; clear hb44; try simp only [decide_eq_true_eq, decide_eq_false_iff_not, Bool.not_eq_true, Bool.not_eq_false, Int.not_lt, Int.not_le, Bool.not_eq_true', Bool.not_eq_false'] at hc44
          have hlt : x.1 < n.bufs.length := by omega
          rw [drop_getD bf0 hlt, List.flatMap_cons] at hg2
          obtain ⟨hbl, hent⟩ := hbufs _ (getD_mem (d := bf0) hlt)
          simp only [bufB] at hg2
          have hgl := congrArg List.length hg2
          simp only [List.length_append] at hgl
          refine AWp.skip (hK43 _ _ _ ?_); try clear hK43 K43
          refine AWp.keep [6, 66, 67, 68] rfl ?_
          refine AWp.seqK fun K45 hK45 => ?_
          refine AWp.block ?_
          refine AWp.regK fun K47 hK47 => ?_
          first | refine AOps.read (ARead.indexAddrF tabOk rfl rfl rfl rfl rfl rfl rfl (by omega) (by omega)) rfl rfl rfl ?_ | refine AOps.read (ARead.indexAddr tabOk rfl rfl rfl rfl rfl rfl rfl (by omega) (by omega)) rfl rfl rfl ?_ | refine AOps.read (ARead.indexAddrA tabOk rfl rfl rfl rfl rfl rfl rfl (by omega) (by omega)) rfl rfl rfl ?_
          first | refine AOps.read (ARead.loadF tabOk rfl rfl rfl rfl) rfl rfl rfl ?_ | refine AOps.read (ARead.load tabOk rfl rfl rfl (by repeat (first | exact Has.head _ | apply Has.tail)) (by first | decide | omega) rfl rfl) rfl rfl rfl ?_ | refine AOps.read (ARead.loadC tabOk rfl rfl rfl (by repeat (first | exact Has.head _ | apply Has.tail)) rfl rfl) rfl rfl rfl ?_
          refine AOps.read (ARead.assign rfl rfl) rfl rfl rfl ?_
          refine AOps.nil (hK47 _ _ _ ?_); clear hK47 K47
          refine AWp.keep [6, 12, 66, 67, 68] rfl ?_
          refine AWp.regK fun K48 hK48 => ?_
          refine AOps.read (ARead.move rfl rfl) rfl rfl rfl ?_
          refine AOps.read (ARead.move rfl rfl) rfl rfl rfl ?_
          first | refine AOps.read (ARead.lenSl tabOk rfl rfl rfl rfl rfl) rfl rfl rfl ?_ | refine AOps.read (ARead.lenRow tabOk rfl rfl rfl rfl) rfl rfl rfl ?_
          refine AOps.op ((AOp.call rfl (.inr ⟨rfl, rfl, rfl⟩) rfl (rnum_nat x.2.2 (n.bufs.getD x.1 bf0).l.length (by omega) (by omega) _ _)).frame (.cons _ _ _ _ _ _ (by repeat (first | exact Has.head _ | apply Has.tail)) (.nil _))) rfl rfl rfl ?_
          rintro N7 r7 H7 hN7 ⟨H7x, ⟨m7, rfl, rfl⟩, rfl⟩
          refine AOps.keep [6, 12, 66, 67, 68, 75] rfl ?_
          refine AOps.read (ARead.assign rfl rfl) rfl rfl rfl ?_
          refine AOps.nil (hK48 _ _ _ ?_); clear hK48 K48
          refine AWp.keep [6, 12, 66, 67, 68] rfl ?_
          refine AWp.regK fun K49 hK49 => ?_
          refine AOps.read (ARead.move rfl rfl) rfl rfl rfl ?_
          first | refine AOps.read (ARead.lenSl tabOk rfl rfl rfl rfl rfl) rfl rfl rfl ?_ | refine AOps.read (ARead.lenRow tabOk rfl rfl rfl rfl) rfl rfl rfl ?_
          refine AOps.read (ARead.move rfl rfl) rfl rfl rfl ?_
          refine AOps.nil (hK49 _ _ _ ?_); clear hK49 K49
          refine AWp.keep [6, 66, 67, 68, 76, 77, 78] rfl ?_
          refine AWp.block ?_
          refine AWp.loopP (α := Nat × Nat × List UInt8) [6, 66, 67, 68, 76, 77, 78] (fun y N => [(6, .row y.2.1 false (bytesA y.2.2).length), (66, bfs n.bn n.bufs), (67, vi n.bufs.length), (68, vi x.1), (76, ens (n.bufs.getD x.1 bf0).nil (n.bufs.getD x.1 bf0).l), (77, vi (n.bufs.getD x.1 bf0).l.length), (78, vi y.1)]) (fun y N => [(y.2.1, .row 1 false (bytesA y.2.2))]) (fun y N => y.1 ≤ (n.bufs.getD x.1 bf0).l.length ∧ y.2.2 ++ ((n.bufs.getD x.1 bf0).l.drop y.1).flatMap entB ++ (n.bufs.drop (x.1 + 1)).flatMap bufB = wholeF n) (fun y => (n.bufs.getD x.1 bf0).l.length - y.1) (0, m7, x.2.2 ++ numF (n.bufs.getD x.1 bf0).l.length) rfl (.cons _ _ _ _ _ _ (by repeat (first | exact Has.head _ | apply Has.tail)) (.nil _)) (⟨Nat.zero_le _, by rw [← hg2]; simp only [List.append_assoc]; rfl⟩) (fun y N hN hg K51 hK51 => ?_)
          obtain ⟨hy1, hy2⟩ := hg
          refine AWp.regK fun K52 hK52 => ?_
          refine AOps.read (ARead.binOp rfl rfl rfl rfl) rfl rfl rfl ?_
          refine AOps.nil (hK52 _ _ _ ?_); clear hK52 K52
          refine AWp.keep [6, 66, 67, 68, 76, 77, 78, 79] rfl ?_
          refine AWp.seqK fun K53 hK53 => ?_
          refine AWp.cond rfl (fun hb54 => ?_) (fun hb54 => ?_)
          · have hc54 := hb54; clear hb54; try simp only [decide_eq_true_eq, decide_eq_false_iff_not, Bool.not_eq_true, Bool.not_eq_false, Int.not_lt, Int.not_le, Bool.not_eq_true', Bool.not_eq_false'] at hc54
            have hlt5 : y.1 < (n.bufs.getD x.1 bf0).l.length := by omega
            rw [drop_getD en0 hlt5, List.flatMap_cons] at hy2
            have hen := hent _ (getD_mem (d := en0) hlt5)
            have hyl := congrArg List.length hy2
            simp only [List.length_append] at hyl
            have hel0 : (entB ((n.bufs.getD x.1 bf0).l.getD y.1 en0)).length = (numF ((n.bufs.getD x.1 bf0).l.getD y.1 en0).seq.toNat).length + 1 + (textsF (opTexts ((n.bufs.getD x.1 bf0).l.getD y.1 en0).op)).length := by simp [entB]; omega
            refine AWp.skip (hK53 _ _ _ ?_); try clear hK53 K53
            refine AWp.keep [6, 66, 67, 68, 76, 77, 78] rfl ?_
            refine AWp.seqK fun K55 hK55 => ?_
            refine AWp.block ?_
            refine AWp.regK fun K57 hK57 => ?_
            first | refine AOps.read (ARead.indexAddrF tabOk rfl rfl rfl rfl rfl rfl rfl (by omega) (by omega)) rfl rfl rfl ?_ | refine AOps.read (ARead.indexAddr tabOk rfl rfl rfl rfl rfl rfl rfl (by omega) (by omega)) rfl rfl rfl ?_ | refine AOps.read (ARead.indexAddrA tabOk rfl rfl rfl rfl rfl rfl rfl (by omega) (by omega)) rfl rfl rfl ?_
            first | refine AOps.read (ARead.loadF tabOk rfl rfl rfl rfl) rfl rfl rfl ?_ | refine AOps.read (ARead.load tabOk rfl rfl rfl (by repeat (first | exact Has.head _ | apply Has.tail)) (by first | decide | omega) rfl rfl) rfl rfl rfl ?_ | refine AOps.read (ARead.loadC tabOk rfl rfl rfl (by repeat (first | exact Has.head _ | apply Has.tail)) rfl rfl) rfl rfl rfl ?_
            refine AOps.op1 (AOp.alloc tabOk rfl rfl rfl) rfl rfl rfl ?_
            first | refine AOps.op10 (AOp.storeC tabOk rfl rfl rfl rfl (by repeat (first | exact Has.head _ | apply Has.tail)) rfl (Nat.le_of_ble_eq_true rfl) rfl) rfl rfl ?_ | refine AOps.op10 (AOp.store tabOk rfl rfl rfl rfl (by repeat (first | exact Has.head _ | apply Has.tail)) (by first | decide | omega) rfl (by decide) rfl) rfl rfl ?_
            refine AOps.nil (hK57 _ _ _ ?_); clear hK57 K57
            refine AWp.keep [6, 14, 66, 67, 68, 76, 77, 78] rfl ?_
            refine AWp.regK fun K58 hK58 => ?_
            refine AOps.read (ARead.move rfl rfl) rfl rfl rfl ?_
            refine AOps.read (ARead.fieldAddr tabOk rfl rfl rfl rfl (by decide) rfl) rfl rfl rfl ?_
            refine AOps.read (ARead.load tabOk rfl rfl rfl (by repeat (first | exact Has.head _ | apply Has.tail)) (by first | decide | omega) rfl rfl) rfl rfl rfl ?_
            refine AOps.op ((AOp.call rfl (.inr ⟨rfl, rfl, rfl⟩) rfl (rNum_int ((n.bufs.getD x.1 bf0).l.getD y.1 en0).seq hen.seq.1 hen.seq.2 _)).frame (.nil _)) rfl rfl rfl ?_
            rintro N8 r8 H8 hN8 ⟨H8x, ⟨m8, rfl, rfl⟩, rfl⟩
            refine AOps.keep [6, 14, 66, 67, 68, 76, 77, 78, 82, 85] rfl ?_
            refine AOps.op1 (AOp.append tabOk (els' := bytesA (y.2.2 ++ numF ((n.bufs.getD x.1 bf0).l.getD y.1 en0).seq.toNat)) (nil' := false) rfl rfl rfl rfl rfl rfl rfl rfl (by repeat (first | exact Has.head _ | apply Has.tail)) (by first | exact .fv _ _ _ rfl | exact .row _ _ _ _ rfl (by repeat (first | exact Has.head _ | apply Has.tail)) | exact .flat _ _ _ _ _ _ rfl (by repeat (first | exact Has.head _ | apply Has.tail)) (by first | decide | omega) | exact .arr _ _ _ _ _ _ _ _ rfl (by repeat (first | exact Has.head _ | apply Has.tail)) (by first | decide | omega) | exact .sl0 _ rfl) (by first | rfl | simp [AV.one]) (by simp only [bytesA, List.length_map, List.length_range, List.length_append, List.length_cons, List.length_nil] at *; omega) (bytesA_app _ _) rfl) rfl rfl rfl ?_
            refine AOps.read (ARead.assign rfl rfl) rfl rfl rfl ?_
            refine AOps.nil (hK58 _ _ _ ?_); clear hK58 K58
            refine AWp.keep [6, 14, 66, 67, 68, 76, 77, 78] rfl ?_
            refine AWp.regK fun K59 hK59 => ?_
            refine AOps.read (ARead.move rfl rfl) rfl rfl rfl ?_
            refine AOps.read (ARead.fieldAddr tabOk rfl rfl rfl rfl (by decide) rfl) rfl rfl rfl ?_
            refine AOps.read (ARead.fieldAddr tabOk rfl rfl rfl rfl (by decide) rfl) rfl rfl rfl ?_
            refine AOps.read (ARead.load tabOk rfl rfl rfl (by repeat (first | exact Has.head _ | apply Has.tail)) (by first | decide | omega) rfl rfl) rfl rfl rfl ?_
            refine AOps.keep [6, 14, 66, 67, 68, 76, 77, 78, 87, 90] rfl ?_
            refine AOps.read (ARead.convW (r := ((UInt8.ofNat ((n.bufs.getD x.1 bf0).l.getD y.1 en0).op.kind.toNat).toNat : Int)) tabOk rfl rfl rfl rfl rfl rfl (kindB hen)) rfl rfl rfl ?_
            refine AOps.op1 (AOp.buildLit tabOk (byteF) (0) ([UInt8.ofNat ((n.bufs.getD x.1 bf0).l.getD y.1 en0).op.kind.toNat]) rfl rfl rfl rfl rfl rfl rfl rfl rfl (by first | decide | (simp only [List.length_cons, List.length_nil]; decide)) (by first | decide | (simp only [List.length_cons, List.length_nil]; decide)) rfl (by intro i hi; (try simp only [List.length_cons, List.length_nil] at hi); rcases i with _ | _ | _ | i <;> first | rfl | omega)) rfl rfl rfl ?_
            refine AOps.op1 (AOp.append tabOk (els' := bytesA (y.2.2 ++ numF ((n.bufs.getD x.1 bf0).l.getD y.1 en0).seq.toNat ++ [UInt8.ofNat ((n.bufs.getD x.1 bf0).l.getD y.1 en0).op.kind.toNat])) (nil' := false) rfl rfl rfl rfl rfl rfl rfl rfl (by repeat (first | exact Has.head _ | apply Has.tail)) (.fv _ _ _ rfl) (by first | rfl | simp [AV.one]) (by simp only [bytesA, List.length_map, List.length_range, List.length_append, List.length_cons, List.length_nil] at *; omega) (by rw [← bytesA_app (y.2.2 ++ numF ((n.bufs.getD x.1 bf0).l.getD y.1 en0).seq.toNat)]; rfl) rfl) rfl rfl rfl ?_
            refine AOps.read (ARead.assign rfl rfl) rfl rfl rfl ?_
            refine AOps.nil (hK59 _ _ _ ?_); clear hK59 K59
            refine AWp.keep [6, 14, 66, 67, 68, 76, 77, 78] rfl ?_
            refine AWp.regK fun K60 hK60 => ?_
            refine AOps.read (ARead.fieldAddr tabOk rfl rfl rfl rfl (by decide) rfl) rfl rfl rfl ?_
            refine AOps.read (ARead.fieldAddr tabOk rfl rfl rfl rfl (by decide) rfl) rfl rfl rfl ?_
            refine AOps.read (ARead.load tabOk rfl rfl rfl (by repeat (first | exact Has.head _ | apply Has.tail)) (by first | decide | omega) rfl rfl) rfl rfl rfl ?_
            refine AOps.nil (hK60 _ _ _ ?_); clear hK60 K60
            refine AWp.keep [6, 14, 66, 67, 68, 76, 77, 78, 96] rfl ?_
            refine AWp.block ?_
            refine AWp.regK fun K62 hK62 => ?_
            refine AOps.read (ARead.binOp rfl rfl rfl rfl) rfl rfl rfl ?_
            refine AOps.read (ARead.assign rfl rfl) rfl rfl rfl ?_
            refine AOps.nil (hK62 _ _ _ ?_); clear hK62 K62
            refine AWp.keep [6, 14, 66, 67, 68, 76, 77, 78, 96, 106] rfl ?_
            refine AWp.cond rfl (fun hb63 => ?_) (fun hb63 => ?_)
            · have hc63 := hb63; clear hb63; try simp only [decide_eq_true_eq, decide_eq_false_iff_not, Bool.not_eq_true, Bool.not_eq_false, Int.not_lt, Int.not_le, Bool.not_eq_true', Bool.not_eq_false'] at hc63
              simp only [Int.toNat_natCast] at hc63
              have hk : ((n.bufs.getD x.1 bf0).l.getD y.1 en0).op.kind = 2 := by simpa using hc63
              have hfe : y.2.2 ++ numF ((n.bufs.getD x.1 bf0).l.getD y.1 en0).seq.toNat ++ [UInt8.ofNat ((n.bufs.getD x.1 bf0).l.getD y.1 en0).op.kind.toNat] ++ textF ((n.bufs.getD x.1 bf0).l.getD y.1 en0).op.key ++ textF ((n.bufs.getD x.1 bf0).l.getD y.1 en0).op.val = y.2.2 ++ entB ((n.bufs.getD x.1 bf0).l.getD y.1 en0) := by rw [entB_two hk]; simp only [List.append_assoc]
              have hfl := congrArg List.length hfe
              simp only [List.length_append, List.length_cons, List.length_nil] at hfl
              refine AWp.drawn mixed (.cons _ (vr (enA ((n.bufs.getD x.1 bf0).l.getD y.1 en0))) _ _ _ _ (by repeat (first | exact Has.head _ | apply Has.tail)) (.nil _)) ?_
              refine AAny.take 0 (ARead.move rfl rfl) rfl (by kernel_rfl) (by kernel_rfl) (by kernel_rfl) rfl rfl rfl ?_
              refine AAny.take 1 (ARead.fieldAddr tabOk rfl rfl rfl rfl (by decide) rfl) rfl (by kernel_rfl) (by kernel_rfl) (by kernel_rfl) rfl rfl rfl ?_
              refine AAny.keep [14, 108, 109] [6, 14, 66, 67, 68, 76, 77, 78, 108, 109] rfl rfl ?_
              refine AAny.take 2 (ARead.fieldAddr tabOk rfl rfl rfl rfl (by decide) rfl) rfl (by kernel_rfl) (by kernel_rfl) (by kernel_rfl) rfl rfl rfl ?_
              refine AAny.take 3 (ARead.load tabOk rfl rfl rfl (by repeat (first | exact Has.head _ | apply Has.tail)) (by first | decide | omega) rfl rfl) rfl (by kernel_rfl) (by kernel_rfl) (by kernel_rfl) rfl rfl rfl ?_
              refine AAny.take 5 (ARead.fieldAddr tabOk rfl rfl rfl rfl (by decide) rfl) rfl (by kernel_rfl) (by kernel_rfl) (by kernel_rfl) rfl rfl rfl ?_
              refine AAny.keep [108, 111, 113] [6, 66, 67, 68, 76, 77, 78, 108, 111, 113] rfl rfl ?_
              refine AAny.take 6 (ARead.fieldAddr tabOk rfl rfl rfl rfl (by decide) rfl) rfl (by kernel_rfl) (by kernel_rfl) (by kernel_rfl) rfl rfl rfl ?_
              refine AAny.take 7 (ARead.load tabOk rfl rfl rfl (by repeat (first | exact Has.head _ | apply Has.tail)) (by first | decide | omega) rfl rfl) rfl (by kernel_rfl) (by kernel_rfl) (by kernel_rfl) rfl rfl rfl ?_
              refine AAny.one 4 (by kernel_rfl) ?_
              refine AStep.opd ((AOp.call rfl (.inr ⟨rfl, rfl, rfl⟩) rfl (rtext_gives (y.2.2 ++ numF ((n.bufs.getD x.1 bf0).l.getD y.1 en0).seq.toNat ++ [UInt8.ofNat ((n.bufs.getD x.1 bf0).l.getD y.1 en0).op.kind.toNat]) ((n.bufs.getD x.1 bf0).l.getD y.1 en0).op.key hen.key (by (try simp only [List.length_append, List.length_cons, List.length_nil] at *); omega) _ _)).frame (.cons _ _ _ _ _ _ (by repeat (first | exact Has.head _ | apply Has.tail)) (.nil _))) rfl rfl rfl rfl ?_
              rintro N9 r9 H9 hN9 ⟨H9x, ⟨m9, rfl, rfl⟩, rfl⟩
              refine AAny.keep [115] [6, 66, 67, 68, 76, 77, 78, 112, 115] rfl rfl ?_
              refine AAny.one 8 (by kernel_rfl) ?_
              refine AStep.opd ((AOp.call rfl (.inr ⟨rfl, rfl, rfl⟩) rfl (rtext_gives (y.2.2 ++ numF ((n.bufs.getD x.1 bf0).l.getD y.1 en0).seq.toNat ++ [UInt8.ofNat ((n.bufs.getD x.1 bf0).l.getD y.1 en0).op.kind.toNat] ++ textF ((n.bufs.getD x.1 bf0).l.getD y.1 en0).op.key) ((n.bufs.getD x.1 bf0).l.getD y.1 en0).op.val hen.val (by (try simp only [List.length_append, List.length_cons, List.length_nil] at *); omega) _ _)).frame (.cons _ _ _ _ _ _ (by repeat (first | exact Has.head _ | apply Has.tail)) (.nil _))) rfl rfl rfl rfl ?_
              rintro N10 r10 H10 hN10 ⟨H10x, ⟨mz, rfl, rfl⟩, rfl⟩
              rw [hfe]
              refine AAny.one 9 (by kernel_rfl) ?_
              refine AStep.read (ARead.assign rfl rfl) rfl rfl rfl rfl ?_
              refine AAny.done (by kernel_rfl) (hK55 _ _ _ ?_); try clear hK55 K55
              refine AWp.keep [6, 66, 67, 68, 76, 77, 78] rfl ?_
              refine AWp.region ?_
              first | refine AOps.read (ARead.binW rfl rfl rfl rfl (i64_ok (by omega) (by omega))) rfl rfl rfl ?_ | refine AOps.read (ARead.binOp rfl rfl rfl rfl) rfl rfl rfl ?_
              refine AOps.read (ARead.move rfl rfl) rfl rfl rfl ?_
              (try clear hK63 K63); (try clear hK62 K62); (try clear hK61 K61); (try clear hK60 K60); (try clear hK59 K59); (try clear hK58 K58); (try clear hK57 K57); (try clear hK56 K56); (try clear hK55 K55); (try clear hK54 K54); (try clear hK53 K53); (try clear hK52 K52); (try clear hK50 K50); (try clear hK49 K49); (try clear hK48 K48); (try clear hK47 K47); (try clear hK46 K46); (try clear hK45 K45); (try clear hK44 K44); (try clear hK43 K43); (try clear hK42 K42); (try clear hK41 K41); (try clear hK40 K40); (try clear hK39 K39); (try clear hK38 K38); (try clear hK37 K37); (try clear hK36 K36); (try clear hK35 K35); (try clear hK34 K34); (try clear hK33 K33); (try clear hK32 K32); (try clear hK31 K31); (try clear hK30 K30); (try clear hK29 K29); (try clear hK28 K28); (try clear hK27 K27); (try clear hK26 K26); (try clear hK25 K25); (try clear hK24 K24); (try clear hK23 K23); (try clear hK22 K22); (try clear hK21 K21); (try clear hK20 K20); (try clear hK19 K19); (try clear hK18 K18); (try clear hK17 K17); (try clear hK16 K16); (try clear hK15 K15); (try clear hK14 K14); (try clear hK13 K13); (try clear hK12 K12); (try clear hK11 K11); (try clear hK10 K10); (try clear hK9 K9); (try clear hK8 K8); (try clear hK7 K7); (try clear hK6 K6); (try clear hK5 K5); (try clear hK4 K4); (try clear hK3 K3); (try clear hK2 K2); (try clear hK1 K1)
              refine AOps.nil (hK51 _ _ _ (y.1 + 1, mz, y.2.2 ++ entB ((n.bufs.getD x.1 bf0).l.getD y.1 en0)) _ (by rfl) (.cons _ _ _ _ _ _ (by repeat (first | exact Has.head _ | apply Has.tail)) (.nil _)) (⟨by omega, by rw [← hy2]; simp only [List.append_assoc]⟩) (by show _ - (y.1 + 1) < _; omega))
            · have hc63 := hb63; clear hb63; try simp only [decide_eq_true_eq, decide_eq_false_iff_not, Bool.not_eq_true, Bool.not_eq_false, Int.not_lt, Int.not_le, Bool.not_eq_true', Bool.not_eq_false'] at hc63
              simp only [Int.toNat_natCast] at hc63
              refine AWp.regK fun K64 hK64 => ?_
              refine AOps.read (ARead.binOp rfl rfl rfl rfl) rfl rfl rfl ?_
              refine AOps.read (ARead.assign rfl rfl) rfl rfl rfl ?_
              refine AOps.nil (hK64 _ _ _ ?_); clear hK64 K64
              refine AWp.keep [6, 14, 66, 67, 68, 76, 77, 78, 117] rfl ?_
              refine AWp.cond rfl (fun hb65 => ?_) (fun hb65 => ?_)
              · have hc65 := hb65; clear hb65; try simp only [decide_eq_true_eq, decide_eq_false_iff_not, Bool.not_eq_true, Bool.not_eq_false, Int.not_lt, Int.not_le, Bool.not_eq_true', Bool.not_eq_false'] at hc65
                simp only [Int.toNat_natCast] at hc65
                have hk : ((n.bufs.getD x.1 bf0).l.getD y.1 en0).op.kind = 3 := by simpa using hc65
                have hfe : y.2.2 ++ numF ((n.bufs.getD x.1 bf0).l.getD y.1 en0).seq.toNat ++ [UInt8.ofNat ((n.bufs.getD x.1 bf0).l.getD y.1 en0).op.kind.toNat] ++ textF ((n.bufs.getD x.1 bf0).l.getD y.1 en0).op.key = y.2.2 ++ entB ((n.bufs.getD x.1 bf0).l.getD y.1 en0) := by rw [entB_three hk]; simp only [List.append_assoc]
                have hfl := congrArg List.length hfe
                simp only [List.length_append, List.length_cons, List.length_nil] at hfl
                refine AWp.region ?_
                refine AOps.read (ARead.move rfl rfl) rfl rfl rfl ?_
                refine AOps.read (ARead.fieldAddr tabOk rfl rfl rfl rfl (by decide) rfl) rfl rfl rfl ?_
                refine AOps.read (ARead.fieldAddr tabOk rfl rfl rfl rfl (by decide) rfl) rfl rfl rfl ?_
                refine AOps.read (ARead.load tabOk rfl rfl rfl (by repeat (first | exact Has.head _ | apply Has.tail)) (by first | decide | omega) rfl rfl) rfl rfl rfl ?_
                refine AOps.keep [6, 66, 67, 68, 76, 77, 78, 119, 122] rfl ?_
                refine AOps.op ((AOp.call rfl (.inr ⟨rfl, rfl, rfl⟩) rfl (rtext_gives (y.2.2 ++ numF ((n.bufs.getD x.1 bf0).l.getD y.1 en0).seq.toNat ++ [UInt8.ofNat ((n.bufs.getD x.1 bf0).l.getD y.1 en0).op.kind.toNat]) ((n.bufs.getD x.1 bf0).l.getD y.1 en0).op.key hen.key (by (try simp only [List.length_append, List.length_cons, List.length_nil] at *); omega) _ _)).frame (.cons _ _ _ _ _ _ (by repeat (first | exact Has.head _ | apply Has.tail)) (.nil _))) rfl rfl rfl ?_
                rintro N11 r11 H11 hN11 ⟨H11x, ⟨mz, rfl, rfl⟩, rfl⟩
                rw [hfe]
                refine AOps.read (ARead.assign rfl rfl) rfl rfl rfl ?_
                refine AOps.nil (hK55 _ _ _ ?_); try clear hK55 K55
                refine AWp.keep [6, 66, 67, 68, 76, 77, 78] rfl ?_
                refine AWp.region ?_
                first | refine AOps.read (ARead.binW rfl rfl rfl rfl (i64_ok (by omega) (by omega))) rfl rfl rfl ?_ | refine AOps.read (ARead.binOp rfl rfl rfl rfl) rfl rfl rfl ?_
                refine AOps.read (ARead.move rfl rfl) rfl rfl rfl ?_
                (try clear hK65 K65); (try clear hK64 K64); (try clear hK63 K63); (try clear hK62 K62); (try clear hK61 K61); (try clear hK60 K60); (try clear hK59 K59); (try clear hK58 K58); (try clear hK57 K57); (try clear hK56 K56); (try clear hK55 K55); (try clear hK54 K54); (try clear hK53 K53); (try clear hK52 K52); (try clear hK50 K50); (try clear hK49 K49); (try clear hK48 K48); (try clear hK47 K47); (try clear hK46 K46); (try clear hK45 K45); (try clear hK44 K44); (try clear hK43 K43); (try clear hK42 K42); (try clear hK41 K41); (try clear hK40 K40); (try clear hK39 K39); (try clear hK38 K38); (try clear hK37 K37); (try clear hK36 K36); (try clear hK35 K35); (try clear hK34 K34); (try clear hK33 K33); (try clear hK32 K32); (try clear hK31 K31); (try clear hK30 K30); (try clear hK29 K29); (try clear hK28 K28); (try clear hK27 K27); (try clear hK26 K26); (try clear hK25 K25); (try clear hK24 K24); (try clear hK23 K23); (try clear hK22 K22); (try clear hK21 K21); (try clear hK20 K20); (try clear hK19 K19); (try clear hK18 K18); (try clear hK17 K17); (try clear hK16 K16); (try clear hK15 K15); (try clear hK14 K14); (try clear hK13 K13); (try clear hK12 K12); (try clear hK11 K11); (try clear hK10 K10); (try clear hK9 K9); (try clear hK8 K8); (try clear hK7 K7); (try clear hK6 K6); (try clear hK5 K5); (try clear hK4 K4); (try clear hK3 K3); (try clear hK2 K2); (try clear hK1 K1)
                refine AOps.nil (hK51 _ _ _ (y.1 + 1, mz, y.2.2 ++ entB ((n.bufs.getD x.1 bf0).l.getD y.1 en0)) _ (by rfl) (.cons _ _ _ _ _ _ (by repeat (first | exact Has.head _ | apply Has.tail)) (.nil _)) (⟨by omega, by rw [← hy2]; simp only [List.append_assoc]⟩) (by show _ - (y.1 + 1) < _; omega))
              · have hc65 := hb65; clear hb65; try simp only [decide_eq_true_eq, decide_eq_false_iff_not, Bool.not_eq_true, Bool.not_eq_false, Int.not_lt, Int.not_le, Bool.not_eq_true', Bool.not_eq_false'] at hc65
                simp only [Int.toNat_natCast] at hc65
                have hk : ((n.bufs.getD x.1 bf0).l.getD y.1 en0).op.kind = 5 := by rcases hen.kind with h | h | h; exact absurd h (by simpa using hc63); exact absurd h (by simpa using hc65); exact h
                have hfe : y.2.2 ++ numF ((n.bufs.getD x.1 bf0).l.getD y.1 en0).seq.toNat ++ [UInt8.ofNat ((n.bufs.getD x.1 bf0).l.getD y.1 en0).op.kind.toNat] ++ textF ((n.bufs.getD x.1 bf0).l.getD y.1 en0).op.lo ++ textF ((n.bufs.getD x.1 bf0).l.getD y.1 en0).op.hi = y.2.2 ++ entB ((n.bufs.getD x.1 bf0).l.getD y.1 en0) := by rw [entB_five hk]; simp only [List.append_assoc]
                have hfl := congrArg List.length hfe
                simp only [List.length_append, List.length_cons, List.length_nil] at hfl
                refine AWp.drawn mixed (.cons _ (vr (enA ((n.bufs.getD x.1 bf0).l.getD y.1 en0))) _ _ _ _ (by repeat (first | exact Has.head _ | apply Has.tail)) (.nil _)) ?_
                refine AAny.take 0 (ARead.move rfl rfl) rfl (by kernel_rfl) (by kernel_rfl) (by kernel_rfl) rfl rfl rfl ?_
                refine AAny.take 1 (ARead.fieldAddr tabOk rfl rfl rfl rfl (by decide) rfl) rfl (by kernel_rfl) (by kernel_rfl) (by kernel_rfl) rfl rfl rfl ?_
                refine AAny.keep [14, 97, 98] [6, 14, 66, 67, 68, 76, 77, 78, 97, 98] rfl rfl ?_
                refine AAny.take 2 (ARead.fieldAddr tabOk rfl rfl rfl rfl (by decide) rfl) rfl (by kernel_rfl) (by kernel_rfl) (by kernel_rfl) rfl rfl rfl ?_
                refine AAny.take 3 (ARead.load tabOk rfl rfl rfl (by repeat (first | exact Has.head _ | apply Has.tail)) (by first | decide | omega) rfl rfl) rfl (by kernel_rfl) (by kernel_rfl) (by kernel_rfl) rfl rfl rfl ?_
                refine AAny.take 5 (ARead.fieldAddr tabOk rfl rfl rfl rfl (by decide) rfl) rfl (by kernel_rfl) (by kernel_rfl) (by kernel_rfl) rfl rfl rfl ?_
                refine AAny.keep [97, 100, 102] [6, 66, 67, 68, 76, 77, 78, 97, 100, 102] rfl rfl ?_
                refine AAny.take 6 (ARead.fieldAddr tabOk rfl rfl rfl rfl (by decide) rfl) rfl (by kernel_rfl) (by kernel_rfl) (by kernel_rfl) rfl rfl rfl ?_
                refine AAny.take 7 (ARead.load tabOk rfl rfl rfl (by repeat (first | exact Has.head _ | apply Has.tail)) (by first | decide | omega) rfl rfl) rfl (by kernel_rfl) (by kernel_rfl) (by kernel_rfl) rfl rfl rfl ?_
                refine AAny.one 4 (by kernel_rfl) ?_
                refine AStep.opd ((AOp.call rfl (.inr ⟨rfl, rfl, rfl⟩) rfl (rtext_gives (y.2.2 ++ numF ((n.bufs.getD x.1 bf0).l.getD y.1 en0).seq.toNat ++ [UInt8.ofNat ((n.bufs.getD x.1 bf0).l.getD y.1 en0).op.kind.toNat]) ((n.bufs.getD x.1 bf0).l.getD y.1 en0).op.lo hen.lo (by (try simp only [List.length_append, List.length_cons, List.length_nil] at *); omega) _ _)).frame (.cons _ _ _ _ _ _ (by repeat (first | exact Has.head _ | apply Has.tail)) (.nil _))) rfl rfl rfl rfl ?_
                rintro N12 r12 H12 hN12 ⟨H12x, ⟨m12, rfl, rfl⟩, rfl⟩
                refine AAny.keep [104] [6, 66, 67, 68, 76, 77, 78, 101, 104] rfl rfl ?_
                refine AAny.one 8 (by kernel_rfl) ?_
                refine AStep.opd ((AOp.call rfl (.inr ⟨rfl, rfl, rfl⟩) rfl (rtext_gives (y.2.2 ++ numF ((n.bufs.getD x.1 bf0).l.getD y.1 en0).seq.toNat ++ [UInt8.ofNat ((n.bufs.getD x.1 bf0).l.getD y.1 en0).op.kind.toNat] ++ textF ((n.bufs.getD x.1 bf0).l.getD y.1 en0).op.lo) ((n.bufs.getD x.1 bf0).l.getD y.1 en0).op.hi hen.hi (by (try simp only [List.length_append, List.length_cons, List.length_nil] at *); omega) _ _)).frame (.cons _ _ _ _ _ _ (by repeat (first | exact Has.head _ | apply Has.tail)) (.nil _))) rfl rfl rfl rfl ?_
                rintro N13 r13 H13 hN13 ⟨H13x, ⟨mz, rfl, rfl⟩, rfl⟩
                rw [hfe]
                refine AAny.one 9 (by kernel_rfl) ?_
                refine AStep.read (ARead.assign rfl rfl) rfl rfl rfl rfl ?_
                refine AAny.done (by kernel_rfl) (hK55 _ _ _ ?_); try clear hK55 K55
                refine AWp.keep [6, 66, 67, 68, 76, 77, 78] rfl ?_
                refine AWp.region ?_
                first | refine AOps.read (ARead.binW rfl rfl rfl rfl (i64_ok (by omega) (by omega))) rfl rfl rfl ?_ | refine AOps.read (ARead.binOp rfl rfl rfl rfl) rfl rfl rfl ?_
                refine AOps.read (ARead.move rfl rfl) rfl rfl rfl ?_
                (try clear hK65 K65); (try clear hK64 K64); (try clear hK63 K63); (try clear hK62 K62); (try clear hK61 K61); (try clear hK60 K60); (try clear hK59 K59); (try clear hK58 K58); (try clear hK57 K57); (try clear hK56 K56); (try clear hK55 K55); (try clear hK54 K54); (try clear hK53 K53); (try clear hK52 K52); (try clear hK50 K50); (try clear hK49 K49); (try clear hK48 K48); (try clear hK47 K47); (try clear hK46 K46); (try clear hK45 K45); (try clear hK44 K44); (try clear hK43 K43); (try clear hK42 K42); (try clear hK41 K41); (try clear hK40 K40); (try clear hK39 K39); (try clear hK38 K38); (try clear hK37 K37); (try clear hK36 K36); (try clear hK35 K35); (try clear hK34 K34); (try clear hK33 K33); (try clear hK32 K32); (try clear hK31 K31); (try clear hK30 K30); (try clear hK29 K29); (try clear hK28 K28); (try clear hK27 K27); (try clear hK26 K26); (try clear hK25 K25); (try clear hK24 K24); (try clear hK23 K23); (try clear hK22 K22); (try clear hK21 K21); (try clear hK20 K20); (try clear hK19 K19); (try clear hK18 K18); (try clear hK17 K17); (try clear hK16 K16); (try clear hK15 K15); (try clear hK14 K14); (try clear hK13 K13); (try clear hK12 K12); (try clear hK11 K11); (try clear hK10 K10); (try clear hK9 K9); (try clear hK8 K8); (try clear hK7 K7); (try clear hK6 K6); (try clear hK5 K5); (try clear hK4 K4); (try clear hK3 K3); (try clear hK2 K2); (try clear hK1 K1)
                refine AOps.nil (hK51 _ _ _ (y.1 + 1, mz, y.2.2 ++ entB ((n.bufs.getD x.1 bf0).l.getD y.1 en0)) _ (by rfl) (.cons _ _ _ _ _ _ (by repeat (first | exact Has.head _ | apply Has.tail)) (.nil _)) (⟨by omega, by rw [← hy2]; simp only [List.append_assoc]⟩) (by show _ - (y.1 + 1) < _; omega))
          · have hc54 := hb54; clear hb54; try simp only [decide_eq_true_eq, decide_eq_false_iff_not, Bool.not_eq_true, Bool.not_eq_false, Int.not_lt, Int.not_le, Bool.not_eq_true', Bool.not_eq_false'] at hc54
            rw [List.drop_of_length_le (by omega), List.flatMap_nil, List.append_nil] at hy2
            refine AWp.exit (Or.inl ⟨rfl, (hK45 _ _ _ ?_)⟩); try clear hK45 K45
            refine AWp.keep [6, 66, 67, 68] rfl ?_
            refine AWp.region ?_
            first | refine AOps.read (ARead.binW rfl rfl rfl rfl (i64_ok (by omega) (by omega))) rfl rfl rfl ?_ | refine AOps.read (ARead.binOp rfl rfl rfl rfl) rfl rfl rfl ?_
            refine AOps.read (ARead.move rfl rfl) rfl rfl rfl ?_
            (try clear hK65 K65); (try clear hK64 K64); (try clear hK63 K63); (try clear hK62 K62); (try clear hK61 K61); (try clear hK60 K60); (try clear hK59 K59); (try clear hK58 K58); (try clear hK57 K57); (try clear hK56 K56); (try clear hK55 K55); (try clear hK54 K54); (try clear hK53 K53); (try clear hK52 K52); (try clear hK51 K51); (try clear hK50 K50); (try clear hK49 K49); (try clear hK48 K48); (try clear hK47 K47); (try clear hK46 K46); (try clear hK45 K45); (try clear hK44 K44); (try clear hK43 K43); (try clear hK42 K42); (try clear hK40 K40); (try clear hK39 K39); (try clear hK38 K38); (try clear hK37 K37); (try clear hK36 K36); (try clear hK35 K35); (try clear hK34 K34); (try clear hK33 K33); (try clear hK32 K32); (try clear hK31 K31); (try clear hK30 K30); (try clear hK29 K29); (try clear hK28 K28); (try clear hK27 K27); (try clear hK26 K26); (try clear hK25 K25); (try clear hK24 K24); (try clear hK23 K23); (try clear hK22 K22); (try clear hK21 K21); (try clear hK20 K20); (try clear hK19 K19); (try clear hK18 K18); (try clear hK17 K17); (try clear hK16 K16); (try clear hK15 K15); (try clear hK14 K14); (try clear hK13 K13); (try clear hK12 K12); (try clear hK11 K11); (try clear hK10 K10); (try clear hK9 K9); (try clear hK8 K8); (try clear hK7 K7); (try clear hK6 K6); (try clear hK5 K5); (try clear hK4 K4); (try clear hK3 K3); (try clear hK2 K2); (try clear hK1 K1)
            refine AOps.nil (hK41 _ _ _ (x.1 + 1, y.2.1, y.2.2) _ (by rfl) (.cons _ _ _ _ _ _ (by repeat (first | exact Has.head _ | apply Has.tail)) (.nil _)) (⟨by omega, hy2⟩) (by show _ - (x.1 + 1) < _; omega))
        · have hc44 := hb44; clear hb44; try simp only [decide_eq_true_eq, decide_eq_false_iff_not, Bool.not_eq_true, Bool.not_eq_false, Int.not_lt, Int.not_le, Bool.not_eq_true', Bool.not_eq_false'] at hc44
          rw [List.drop_of_length_le (by omega), List.flatMap_nil, List.append_nil] at hg2
          have hend : x.2.2 = wholeF n := hg2
          refine AWp.exit (Or.inl ⟨rfl, (hK38 _ _ _ ?_)⟩); try clear hK38 K38
          refine AWp.keep [6] rfl ?_
          refine AWp.regK fun K66 hK66 => ?_
          refine AOps.read (ARead.move rfl rfl) rfl rfl rfl ?_
          refine AOps.read (ARead.assign rfl rfl) rfl rfl rfl ?_
          refine AOps.nil (hK66 _ _ _ ?_); clear hK66 K66
          refine AWp.keep [2] rfl ?_
          refine AWp.ret ?_
          refine ⟨Or.inr rfl, _, (.tmp _ _ _ _ rfl .nil), ?_⟩
          (try clear hK66 K66); (try clear hK65 K65); (try clear hK64 K64); (try clear hK63 K63); (try clear hK62 K62); (try clear hK61 K61); (try clear hK60 K60); (try clear hK59 K59); (try clear hK58 K58); (try clear hK57 K57); (try clear hK56 K56); (try clear hK55 K55); (try clear hK54 K54); (try clear hK53 K53); (try clear hK52 K52); (try clear hK51 K51); (try clear hK50 K50); (try clear hK49 K49); (try clear hK48 K48); (try clear hK47 K47); (try clear hK46 K46); (try clear hK45 K45); (try clear hK44 K44); (try clear hK43 K43); (try clear hK42 K42); (try clear hK41 K41); (try clear hK40 K40); (try clear hK39 K39); (try clear hK38 K38); (try clear hK37 K37); (try clear hK36 K36); (try clear hK35 K35); (try clear hK34 K34); (try clear hK33 K33); (try clear hK32 K32); (try clear hK31 K31); (try clear hK30 K30); (try clear hK29 K29); (try clear hK28 K28); (try clear hK27 K27); (try clear hK26 K26); (try clear hK25 K25); (try clear hK24 K24); (try clear hK23 K23); (try clear hK22 K22); (try clear hK21 K21); (try clear hK20 K20); (try clear hK19 K19); (try clear hK18 K18); (try clear hK17 K17); (try clear hK16 K16); (try clear hK15 K15); (try clear hK14 K14); (try clear hK13 K13); (try clear hK12 K12); (try clear hK11 K11); (try clear hK10 K10); (try clear hK9 K9); (try clear hK8 K8); (try clear hK7 K7); (try clear hK6 K6); (try clear hK5 K5); (try clear hK4 K4); (try clear hK3 K3); (try clear hK2 K2); (try clear hK1 K1)
          rw [hend]
          exact ⟨_, _, .cons _ _ _ _ _ _ (.head _) (.nil _), _, rfl, rfl⟩

end Go.Sl
