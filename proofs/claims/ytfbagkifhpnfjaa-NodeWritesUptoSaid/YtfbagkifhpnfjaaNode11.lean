/- The walk of the law NodeSizes. No condition beside those in the statements. -/
import Derived.Test.YtfbagkifhpnfjaaNode10
import Derived.Test.YtfbagkifhpnfjaaLive13
namespace Go.Sl
open Go Go.Proofs 
set_option linter.unusedVariables false
set_option linter.unusedSimpArgs false
set_option maxRecDepth 20000
set_option maxHeartbeats 400000
theorem nodeEnc_gives (n : Nd) (f : NdFit n) (he : encErrF n = 0) (N : Nat) : ACall Try.prog 36 [ndA n] N [] fun _ r H' => ∃ v, r = .tuple [v, vi 0] ∧ GivesB (wholeF n) v H' := ACall.forget (nodeEnc_ok n f he N)

theorem nodeSizes_err (n : Nd) (f : NdFit n) (he : encErrF n ≠ 0) : APure Try.prog 10 [ndA n] (vb true) := by
  refine APure.intro fun N0 => ?_
  refine ACall.of_body tabOk (tab := tab) (fn := Try.f10) Try.func10 (by kernel_rfl) rfl (by simp [Try.f10]) ?_
  show AWp Try.prog 76 _ N0 [(0, ndA n)] [] _
  refine AWp.regK fun K1 hK1 => ?_
  refine AOps.op1 (AOp.box rfl rfl rfl) rfl rfl rfl ?_
  refine AOps.read (ARead.assign rfl rfl) rfl rfl rfl ?_
  refine AOps.nil (hK1 _ _ _ ?_); clear hK1 K1
  refine AWp.keep [1] rfl ?_
  refine AWp.regK fun K2 hK2 => ?_
  refine AOps.pcall (live13_ok) rfl (by first | exact .inr ⟨rfl, rfl, rfl⟩ | exact .inl rfl) rfl rfl rfl rfl (fun N hN => ?_)
  refine AOps.read (ARead.assign rfl rfl) rfl rfl rfl ?_
  refine AOps.nil (hK2 _ _ _ ?_); clear hK2 K2
  refine AWp.keep [1, 3] rfl ?_
  refine AWp.regK fun K3 hK3 => ?_
  refine AOps.read (ARead.load tabOk rfl rfl rfl (by repeat (first | exact Has.head _ | apply Has.tail)) (by first | decide | omega) rfl rfl) rfl rfl rfl ?_
  refine AOps.pcall (nodeSize_ok n f) rfl (by first | exact .inr ⟨rfl, rfl, rfl⟩ | exact .inl rfl) rfl rfl rfl rfl (fun N hN => ?_)
  refine AOps.read (ARead.move rfl rfl) rfl rfl rfl ?_
  refine AOps.read (ARead.extract rfl rfl rfl) rfl rfl rfl ?_
  refine AOps.keep [1, 3, 9, 12] rfl ?_
  refine AOps.read (ARead.extract rfl rfl rfl) rfl rfl rfl ?_
  refine AOps.read (ARead.assign rfl rfl) rfl rfl rfl ?_
  refine AOps.read (ARead.assign rfl rfl) rfl rfl rfl ?_
  refine AOps.nil (hK3 _ _ _ ?_); clear hK3 K3
  refine AWp.keep [1, 3, 4, 5] rfl ?_
  refine AWp.regK fun K4 hK4 => ?_
  refine AOps.read (ARead.load tabOk rfl rfl rfl (by repeat (first | exact Has.head _ | apply Has.tail)) (by first | decide | omega) rfl rfl) rfl rfl rfl ?_
  refine AOps.pcall (nodeEnc_err n f he) rfl (by first | exact .inr ⟨rfl, rfl, rfl⟩ | exact .inl rfl) rfl rfl rfl rfl (fun N hN => ?_)
  refine AOps.read (ARead.move rfl rfl) rfl rfl rfl ?_
  refine AOps.read (ARead.extract rfl rfl rfl) rfl rfl rfl ?_
  refine AOps.keep [1, 3, 4, 5, 14, 17] rfl ?_
  refine AOps.read (ARead.extract rfl rfl rfl) rfl rfl rfl ?_
  refine AOps.read (ARead.assign rfl rfl) rfl rfl rfl ?_
  refine AOps.read (ARead.assign rfl rfl) rfl rfl rfl ?_
  refine AOps.nil (hK4 _ _ _ ?_); clear hK4 K4
  refine AWp.keep [1, 3, 4, 5, 6, 7] rfl ?_
  refine AWp.seqK fun K5 hK5 => ?_
  refine AWp.block ?_
  refine AWp.regK fun K7 hK7 => ?_
  refine AOps.read (ARead.load tabOk rfl rfl rfl (by repeat (first | exact Has.head _ | apply Has.tail)) (by first | decide | omega) rfl rfl) rfl rfl rfl ?_
  refine AOps.pcall (nodeCheck_ok n f.ok) rfl (by first | exact .inr ⟨rfl, rfl, rfl⟩ | exact .inl rfl) rfl rfl rfl rfl (fun N hN => ?_)
  refine AOps.read (ARead.binOp rfl rfl rfl rfl) rfl rfl rfl ?_
  refine AOps.read (ARead.assign rfl rfl) rfl rfl rfl ?_
  refine AOps.nil (hK7 _ _ _ ?_); clear hK7 K7
  refine AWp.keep [1, 3, 4, 5, 6, 7, 19] rfl ?_
  refine AWp.cond rfl (fun hb8 => ?_) (fun hb8 => ?_)
  · have hc8 := hb8; clear hb8; try simp only [decide_eq_true_eq, decide_eq_false_iff_not, Bool.not_eq_true, Bool.not_eq_false, Int.not_lt, Int.not_le, Bool.not_eq_true', Bool.not_eq_false'] at hc8
    refine AWp.regK fun K9 hK9 => ?_
    refine AOps.read (ARead.move rfl rfl) rfl rfl rfl ?_
    refine AOps.read (ARead.move rfl rfl) rfl rfl rfl ?_
    refine AOps.gread rfl rfl rfl rfl rfl (.cons 5 _ _ _ rfl (by first | exact .strip _ _ id | (refine .strip _ _ (fun h => ?_); simp_all; done) | exact .same _) .nil) (fun hG => ARead.move rfl rfl) rfl rfl ?_
    refine AOps.gread rfl rfl rfl rfl rfl (.cons 1 _ _ _ rfl (by first | exact .strip _ _ id | (refine .strip _ _ (fun h => ?_); simp_all; done) | exact .same _) .nil) (fun hG => ARead.load tabOk rfl rfl rfl (by repeat (first | exact Has.head _ | apply Has.tail)) (by first | decide | omega) rfl rfl) rfl rfl ?_
    refine AOps.keep [4, 5, 6, 7, 24, 25, 26] rfl ?_
    refine AOps.gpcall rfl rfl rfl rfl rfl (.cons 26 _ _ _ rfl (by first | exact .strip _ _ id | (refine .strip _ _ (fun h => ?_); simp_all; done) | exact .same _) .nil) rfl (by first | exact .inr ⟨rfl, rfl, rfl⟩ | exact .inl rfl) rfl (fun hG => nodeCheck_ok n f.ok) rfl rfl (fun N hN => ?_)
    refine AOps.gread rfl rfl rfl rfl rfl (.cons 25 _ _ _ rfl (by first | exact .strip _ _ id | (refine .strip _ _ (fun h => ?_); simp_all; done) | exact .same _) (.cons 27 _ _ _ rfl (by first | exact .strip _ _ id | (refine .strip _ _ (fun h => ?_); simp_all; done) | exact .same _) .nil)) (fun hG => ARead.binOp rfl rfl rfl rfl) rfl rfl ?_
    first | refine AOps.read (ARead.pickB rfl rfl rfl (by first | exact .strip _ _ id | (refine .strip _ _ (fun h => ?_); simp_all; done) | exact .same _) rfl (by first | exact .strip _ _ id | (refine .strip _ _ (fun h => ?_); simp_all; done) | exact .same _)) rfl rfl rfl ?_ | refine AOps.read (ARead.pick rfl rfl rfl) rfl rfl rfl ?_
    refine AOps.read (ARead.move rfl rfl) rfl rfl rfl ?_
    refine AOps.keep [4, 5, 6, 7, 30] rfl ?_
    refine AOps.gread rfl rfl rfl rfl rfl (.cons 7 _ _ _ rfl (by first | exact .strip _ _ id | (refine .strip _ _ (fun h => ?_); simp_all; done) | exact .same _) .nil) (fun hG => ARead.move rfl rfl) rfl rfl ?_
    refine AOps.gread rfl rfl rfl rfl rfl (.cons 5 _ _ _ rfl (by first | exact .strip _ _ id | (refine .strip _ _ (fun h => ?_); simp_all; done) | exact .same _) .nil) (fun hG => ARead.move rfl rfl) rfl rfl ?_
    refine AOps.gread rfl rfl rfl rfl rfl (.cons 31 _ _ _ rfl (by first | exact .strip _ _ id | (refine .strip _ _ (fun h => ?_); simp_all; done) | exact .same _) (.cons 32 _ _ _ rfl (by first | exact .strip _ _ id | (refine .strip _ _ (fun h => ?_); simp_all; done) | exact .same _) .nil)) (fun hG => ARead.binOp rfl rfl rfl rfl) rfl rfl ?_
    first | refine AOps.read (ARead.pickB rfl rfl rfl (by first | exact .strip _ _ id | (refine .strip _ _ (fun h => ?_); simp_all; done) | exact .same _) rfl (by first | exact .strip _ _ id | (refine .strip _ _ (fun h => ?_); simp_all; done) | exact .same _)) rfl rfl rfl ?_ | refine AOps.read (ARead.pick rfl rfl rfl) rfl rfl rfl ?_
    refine AOps.keep [4, 6, 34] rfl ?_
    refine AOps.read (ARead.move rfl rfl) rfl rfl rfl ?_
    refine AOps.gread rfl rfl rfl rfl rfl (.cons 4 _ _ _ rfl (by first | exact .strip _ _ id | (refine .strip _ _ (fun h => ?_); simp_all; done) | exact .same _) .nil) (fun hG => ARead.move rfl rfl) rfl rfl ?_
    refine AOps.gread rfl rfl rfl rfl rfl (.cons 36 _ _ _ rfl (by first | exact .strip _ _ id | (refine .strip _ _ (fun h => ?_); simp_all; done) | exact .same _) .nil) (fun hG => ARead.binOp rfl rfl rfl rfl) rfl rfl ?_
    first | refine AOps.read (ARead.pickB rfl rfl rfl (by first | exact .strip _ _ id | (refine .strip _ _ (fun h => ?_); simp_all; done) | exact .same _) rfl (by first | exact .strip _ _ id | (refine .strip _ _ (fun h => ?_); simp_all; done) | exact .same _)) rfl rfl rfl ?_ | refine AOps.read (ARead.pick rfl rfl rfl) rfl rfl rfl ?_
    refine AOps.keep [6, 38] rfl ?_
    refine AOps.read (ARead.move rfl rfl) rfl rfl rfl ?_
    refine AOps.gread rfl rfl rfl rfl rfl (.cons 6 _ _ _ rfl (by first | exact .strip _ _ id | (refine .strip _ _ (fun h => ?_); simp_all; done) | exact .same _) .nil) (fun hG => ARead.move rfl rfl) rfl rfl ?_
    first | refine AOps.gread rfl rfl rfl rfl rfl (.cons 40 _ _ _ rfl (by first | exact .strip _ _ id | (refine .strip _ _ (fun h => ?_); simp_all; done) | exact .same _) .nil) (fun hG => ARead.lenSl tabOk rfl rfl rfl rfl rfl) rfl rfl ?_ | refine AOps.gread rfl rfl rfl rfl rfl (.cons 40 _ _ _ rfl (by first | exact .strip _ _ id | (refine .strip _ _ (fun h => ?_); simp_all; done) | exact .same _) .nil) (fun hG => ARead.lenRow tabOk rfl rfl rfl rfl) rfl rfl ?_
    refine AOps.gread rfl rfl rfl rfl rfl (.cons 41 _ _ _ rfl (by first | exact .strip _ _ id | (refine .strip _ _ (fun h => ?_); simp_all; done) | exact .same _) .nil) (fun hG => ARead.binOp rfl rfl rfl rfl) rfl rfl ?_
    refine AOps.keep [39, 42] rfl ?_
    first | refine AOps.read (ARead.pickB rfl rfl rfl (by first | exact .strip _ _ id | (refine .strip _ _ (fun h => ?_); simp_all; done) | exact .same _) rfl (by first | exact .strip _ _ id | (refine .strip _ _ (fun h => ?_); simp_all; done) | exact .same _)) rfl rfl rfl ?_ | refine AOps.read (ARead.pick rfl rfl rfl) rfl rfl rfl ?_
    refine AOps.read (ARead.assign rfl rfl) rfl rfl rfl ?_
    refine AOps.nil (hK9 _ _ _ ?_); clear hK9 K9
    refine AWp.keep [2] rfl ?_
    refine AWp.ret ?_
    refine ⟨Or.inr rfl, _, (.tmp _ _ _ _ rfl .nil), ?_⟩
    (try clear hK9 K9); (try clear hK8 K8); (try clear hK7 K7); (try clear hK6 K6); (try clear hK5 K5); (try clear hK4 K4); (try clear hK3 K3); (try clear hK2 K2); (try clear hK1 K1)
    show packR _ = _
    simp only [packR]; unfold sizeF encErrF at *; simp_all <;> omega
  · have hc8 := hb8; clear hb8; try simp only [decide_eq_true_eq, decide_eq_false_iff_not, Bool.not_eq_true, Bool.not_eq_false, Int.not_lt, Int.not_le, Bool.not_eq_true', Bool.not_eq_false'] at hc8
    refine AWp.regK fun K10 hK10 => ?_
    refine AOps.read (ARead.move rfl rfl) rfl rfl rfl ?_
    refine AOps.read (ARead.binOp rfl rfl rfl rfl) rfl rfl rfl ?_
    refine AOps.read (ARead.assign rfl rfl) rfl rfl rfl ?_
    refine AOps.nil (hK10 _ _ _ ?_); clear hK10 K10
    refine AWp.keep [3, 4, 5, 6, 7, 44] rfl ?_
    refine AWp.cond rfl (fun hb11 => ?_) (fun hb11 => ?_)
    · have hc11 := hb11; clear hb11; try simp only [decide_eq_true_eq, decide_eq_false_iff_not, Bool.not_eq_true, Bool.not_eq_false, Int.not_lt, Int.not_le, Bool.not_eq_true', Bool.not_eq_false'] at hc11
      refine AWp.regK fun K12 hK12 => ?_
      refine AOps.read (ARead.move rfl rfl) rfl rfl rfl ?_
      refine AOps.read (ARead.move rfl rfl) rfl rfl rfl ?_
      refine AOps.gread rfl rfl rfl rfl rfl (.cons 5 _ _ _ rfl (by first | exact .strip _ _ id | (refine .strip _ _ (fun h => ?_); simp_all; done) | exact .same _) .nil) (fun hG => ARead.move rfl rfl) rfl rfl ?_
      refine AOps.gread rfl rfl rfl rfl rfl (.cons 49 _ _ _ rfl (by first | exact .strip _ _ id | (refine .strip _ _ (fun h => ?_); simp_all; done) | exact .same _) .nil) (fun hG => ARead.binOp rfl rfl rfl rfl) rfl rfl ?_
      refine AOps.keep [6, 7, 48, 50] rfl ?_
      first | refine AOps.read (ARead.pickB rfl rfl rfl (by first | exact .strip _ _ id | (refine .strip _ _ (fun h => ?_); simp_all; done) | exact .same _) rfl (by first | exact .strip _ _ id | (refine .strip _ _ (fun h => ?_); simp_all; done) | exact .same _)) rfl rfl rfl ?_ | refine AOps.read (ARead.pick rfl rfl rfl) rfl rfl rfl ?_
      refine AOps.read (ARead.move rfl rfl) rfl rfl rfl ?_
      refine AOps.gread rfl rfl rfl rfl rfl (.cons 7 _ _ _ rfl (by first | exact .strip _ _ id | (refine .strip _ _ (fun h => ?_); simp_all; done) | exact .same _) .nil) (fun hG => ARead.move rfl rfl) rfl rfl ?_
      refine AOps.gread rfl rfl rfl rfl rfl (.cons 53 _ _ _ rfl (by first | exact .strip _ _ id | (refine .strip _ _ (fun h => ?_); simp_all; done) | exact .same _) .nil) (fun hG => ARead.binOp rfl rfl rfl rfl) rfl rfl ?_
      refine AOps.keep [6, 52, 54] rfl ?_
      first | refine AOps.read (ARead.pickB rfl rfl rfl (by first | exact .strip _ _ id | (refine .strip _ _ (fun h => ?_); simp_all; done) | exact .same _) rfl (by first | exact .strip _ _ id | (refine .strip _ _ (fun h => ?_); simp_all; done) | exact .same _)) rfl rfl rfl ?_ | refine AOps.read (ARead.pick rfl rfl rfl) rfl rfl rfl ?_
      refine AOps.read (ARead.move rfl rfl) rfl rfl rfl ?_
      refine AOps.gread rfl rfl rfl rfl rfl (.cons 6 _ _ _ rfl (by first | exact .strip _ _ id | (refine .strip _ _ (fun h => ?_); simp_all; done) | exact .same _) .nil) (fun hG => ARead.move rfl rfl) rfl rfl ?_
      first | refine AOps.gread rfl rfl rfl rfl rfl (.cons 57 _ _ _ rfl (by first | exact .strip _ _ id | (refine .strip _ _ (fun h => ?_); simp_all; done) | exact .same _) .nil) (fun hG => ARead.lenSl tabOk rfl rfl rfl rfl rfl) rfl rfl ?_ | refine AOps.gread rfl rfl rfl rfl rfl (.cons 57 _ _ _ rfl (by first | exact .strip _ _ id | (refine .strip _ _ (fun h => ?_); simp_all; done) | exact .same _) .nil) (fun hG => ARead.lenRow tabOk rfl rfl rfl rfl) rfl rfl ?_
      refine AOps.keep [56, 58] rfl ?_
      refine AOps.gread rfl rfl rfl rfl rfl (.cons 58 _ _ _ rfl (by first | exact .strip _ _ id | (refine .strip _ _ (fun h => ?_); simp_all; done) | exact .same _) .nil) (fun hG => ARead.binOp rfl rfl rfl rfl) rfl rfl ?_
      first | refine AOps.read (ARead.pickB rfl rfl rfl (by first | exact .strip _ _ id | (refine .strip _ _ (fun h => ?_); simp_all; done) | exact .same _) rfl (by first | exact .strip _ _ id | (refine .strip _ _ (fun h => ?_); simp_all; done) | exact .same _)) rfl rfl rfl ?_ | refine AOps.read (ARead.pick rfl rfl rfl) rfl rfl rfl ?_
      refine AOps.read (ARead.assign rfl rfl) rfl rfl rfl ?_
      refine AOps.nil (hK12 _ _ _ ?_); clear hK12 K12
      refine AWp.keep [2] rfl ?_
      refine AWp.ret ?_
      refine ⟨Or.inr rfl, _, (.tmp _ _ _ _ rfl .nil), ?_⟩
      (try clear hK12 K12); (try clear hK11 K11); (try clear hK10 K10); (try clear hK9 K9); (try clear hK8 K8); (try clear hK7 K7); (try clear hK6 K6); (try clear hK5 K5); (try clear hK4 K4); (try clear hK3 K3); (try clear hK2 K2); (try clear hK1 K1)
      show packR _ = _
      simp only [packR]; unfold sizeF encErrF at *; simp_all <;> omega
    · have hc11 := hb11; clear hb11; try simp only [decide_eq_true_eq, decide_eq_false_iff_not, Bool.not_eq_true, Bool.not_eq_false, Int.not_lt, Int.not_le, Bool.not_eq_true', Bool.not_eq_false'] at hc11
      refine AWp.skip (hK5 _ _ _ ?_); try clear hK5 K5
      refine AWp.keep [3, 4, 5, 6, 7] rfl ?_
      refine AWp.regK fun K13 hK13 => ?_
      refine AOps.read (ARead.move rfl rfl) rfl rfl rfl ?_
      refine AOps.read (ARead.move rfl rfl) rfl rfl rfl ?_
      refine AOps.gread rfl rfl rfl rfl rfl (.cons 5 _ _ _ rfl (by first | exact .strip _ _ id | (refine .strip _ _ (fun h => ?_); simp_all; done) | exact .same _) .nil) (fun hG => ARead.move rfl rfl) rfl rfl ?_
      refine AOps.gread rfl rfl rfl rfl rfl (.cons 63 _ _ _ rfl (by first | exact .strip _ _ id | (refine .strip _ _ (fun h => ?_); simp_all; done) | exact .same _) .nil) (fun hG => ARead.binOp rfl rfl rfl rfl) rfl rfl ?_
      refine AOps.keep [4, 6, 7, 62, 64] rfl ?_
      first | refine AOps.read (ARead.pickB rfl rfl rfl (by first | exact .strip _ _ id | (refine .strip _ _ (fun h => ?_); simp_all; done) | exact .same _) rfl (by first | exact .strip _ _ id | (refine .strip _ _ (fun h => ?_); simp_all; done) | exact .same _)) rfl rfl rfl ?_ | refine AOps.read (ARead.pick rfl rfl rfl) rfl rfl rfl ?_
      refine AOps.read (ARead.move rfl rfl) rfl rfl rfl ?_
      refine AOps.gread rfl rfl rfl rfl rfl (.cons 7 _ _ _ rfl (by first | exact .strip _ _ id | (refine .strip _ _ (fun h => ?_); simp_all; done) | exact .same _) .nil) (fun hG => ARead.move rfl rfl) rfl rfl ?_
      refine AOps.gread rfl rfl rfl rfl rfl (.cons 67 _ _ _ rfl (by first | exact .strip _ _ id | (refine .strip _ _ (fun h => ?_); simp_all; done) | exact .same _) .nil) (fun hG => ARead.binOp rfl rfl rfl rfl) rfl rfl ?_
      refine AOps.keep [4, 6, 66, 68] rfl ?_
      first | refine AOps.read (ARead.pickB rfl rfl rfl (by first | exact .strip _ _ id | (refine .strip _ _ (fun h => ?_); simp_all; done) | exact .same _) rfl (by first | exact .strip _ _ id | (refine .strip _ _ (fun h => ?_); simp_all; done) | exact .same _)) rfl rfl rfl ?_ | refine AOps.read (ARead.pick rfl rfl rfl) rfl rfl rfl ?_
      refine AOps.read (ARead.move rfl rfl) rfl rfl rfl ?_
      refine AOps.gread rfl rfl rfl rfl rfl (.cons 6 _ _ _ rfl (by first | exact .strip _ _ id | (refine .strip _ _ (fun h => ?_); simp_all; done) | exact .same _) .nil) (fun hG => ARead.move rfl rfl) rfl rfl ?_
      first | refine AOps.gread rfl rfl rfl rfl rfl (.cons 71 _ _ _ rfl (by first | exact .strip _ _ id | (refine .strip _ _ (fun h => ?_); simp_all; done) | exact .same _) .nil) (fun hG => ARead.lenSl tabOk rfl rfl rfl rfl rfl) rfl rfl ?_ | refine AOps.gread rfl rfl rfl rfl rfl (.cons 71 _ _ _ rfl (by first | exact .strip _ _ id | (refine .strip _ _ (fun h => ?_); simp_all; done) | exact .same _) .nil) (fun hG => ARead.lenRow tabOk rfl rfl rfl rfl) rfl rfl ?_
      refine AOps.keep [4, 70, 72] rfl ?_
      refine AOps.gread rfl rfl rfl rfl rfl (.cons 4 _ _ _ rfl (by first | exact .strip _ _ id | (refine .strip _ _ (fun h => ?_); simp_all; done) | exact .same _) .nil) (fun hG => ARead.move rfl rfl) rfl rfl ?_
      refine AOps.gread rfl rfl rfl rfl rfl (.cons 72 _ _ _ rfl (by first | exact .strip _ _ id | (refine .strip _ _ (fun h => ?_); simp_all; done) | exact .same _) (.cons 73 _ _ _ rfl (by first | exact .strip _ _ id | (refine .strip _ _ (fun h => ?_); simp_all; done) | exact .same _) .nil)) (fun hG => ARead.binOp rfl rfl rfl rfl) rfl rfl ?_
      first | refine AOps.read (ARead.pickB rfl rfl rfl (by first | exact .strip _ _ id | (refine .strip _ _ (fun h => ?_); simp_all; done) | exact .same _) rfl (by first | exact .strip _ _ id | (refine .strip _ _ (fun h => ?_); simp_all; done) | exact .same _)) rfl rfl rfl ?_ | refine AOps.read (ARead.pick rfl rfl rfl) rfl rfl rfl ?_
      refine AOps.read (ARead.assign rfl rfl) rfl rfl rfl ?_
      refine AOps.nil (hK13 _ _ _ ?_); clear hK13 K13
      refine AWp.keep [2] rfl ?_
      refine AWp.ret ?_
      refine ⟨Or.inr rfl, _, (.tmp _ _ _ _ rfl .nil), ?_⟩
      (try clear hK13 K13); (try clear hK12 K12); (try clear hK11 K11); (try clear hK10 K10); (try clear hK9 K9); (try clear hK8 K8); (try clear hK7 K7); (try clear hK6 K6); (try clear hK5 K5); (try clear hK4 K4); (try clear hK3 K3); (try clear hK2 K2); (try clear hK1 K1)
      show packR _ = _
      simp only [packR]; unfold sizeF encErrF at *; simp_all <;> omega

theorem nodeSizes_fine (n : Nd) (f : NdFit n) (he : encErrF n = 0) : APure Try.prog 10 [ndA n] (vb true) := by
  refine APure.intro fun N0 => ?_
  refine ACall.of_body tabOk (tab := tab) (fn := Try.f10) Try.func10 (by kernel_rfl) rfl (by simp [Try.f10]) ?_
  show AWp Try.prog 76 _ N0 [(0, ndA n)] [] _
  refine AWp.regK fun K1 hK1 => ?_
  refine AOps.op1 (AOp.box rfl rfl rfl) rfl rfl rfl ?_
  refine AOps.read (ARead.assign rfl rfl) rfl rfl rfl ?_
  refine AOps.nil (hK1 _ _ _ ?_); clear hK1 K1
  refine AWp.keep [1] rfl ?_
  refine AWp.regK fun K2 hK2 => ?_
  refine AOps.pcall (live13_ok) rfl (by first | exact .inr ⟨rfl, rfl, rfl⟩ | exact .inl rfl) rfl rfl rfl rfl (fun N hN => ?_)
  refine AOps.read (ARead.assign rfl rfl) rfl rfl rfl ?_
  refine AOps.nil (hK2 _ _ _ ?_); clear hK2 K2
  refine AWp.keep [1, 3] rfl ?_
  refine AWp.regK fun K3 hK3 => ?_
  refine AOps.read (ARead.load tabOk rfl rfl rfl (by repeat (first | exact Has.head _ | apply Has.tail)) (by first | decide | omega) rfl rfl) rfl rfl rfl ?_
  refine AOps.pcall (nodeSize_ok n f) rfl (by first | exact .inr ⟨rfl, rfl, rfl⟩ | exact .inl rfl) rfl rfl rfl rfl (fun N hN => ?_)
  refine AOps.read (ARead.move rfl rfl) rfl rfl rfl ?_
  refine AOps.read (ARead.extract rfl rfl rfl) rfl rfl rfl ?_
  refine AOps.keep [1, 3, 9, 12] rfl ?_
  refine AOps.read (ARead.extract rfl rfl rfl) rfl rfl rfl ?_
  refine AOps.read (ARead.assign rfl rfl) rfl rfl rfl ?_
  refine AOps.read (ARead.assign rfl rfl) rfl rfl rfl ?_
  refine AOps.nil (hK3 _ _ _ ?_); clear hK3 K3
  refine AWp.keep [1, 3, 4, 5] rfl ?_
  refine AWp.regK fun K4 hK4 => ?_
  refine AOps.read (ARead.load tabOk rfl rfl rfl (by repeat (first | exact Has.head _ | apply Has.tail)) (by first | decide | omega) rfl rfl) rfl rfl rfl ?_
  refine AOps.op ((AOp.call rfl (.inr ⟨rfl, rfl, rfl⟩) rfl (nodeEnc_gives n f he _)).frame (.nil _)) rfl rfl rfl ?_
  rintro N3 r3 H3 hN3 ⟨H3x, ⟨v3, rfl, m3, rfl, rfl⟩, rfl⟩
  refine AOps.read (ARead.move rfl rfl) rfl rfl rfl ?_
  refine AOps.read (ARead.extract rfl rfl rfl) rfl rfl rfl ?_
  refine AOps.keep [1, 3, 4, 5, 14, 17] rfl ?_
  refine AOps.read (ARead.extract rfl rfl rfl) rfl rfl rfl ?_
  refine AOps.read (ARead.assign rfl rfl) rfl rfl rfl ?_
  refine AOps.read (ARead.assign rfl rfl) rfl rfl rfl ?_
  refine AOps.nil (hK4 _ _ _ ?_); clear hK4 K4
  refine AWp.keep [1, 3, 4, 5, 6, 7] rfl ?_
  refine AWp.seqK fun K5 hK5 => ?_
  refine AWp.block ?_
  refine AWp.regK fun K7 hK7 => ?_
  refine AOps.read (ARead.load tabOk rfl rfl rfl (by repeat (first | exact Has.head _ | apply Has.tail)) (by first | decide | omega) rfl rfl) rfl rfl rfl ?_
  refine AOps.pcall (nodeCheck_ok n f.ok) rfl (by first | exact .inr ⟨rfl, rfl, rfl⟩ | exact .inl rfl) rfl rfl rfl rfl (fun N hN => ?_)
  refine AOps.read (ARead.binOp rfl rfl rfl rfl) rfl rfl rfl ?_
  refine AOps.read (ARead.assign rfl rfl) rfl rfl rfl ?_
  refine AOps.nil (hK7 _ _ _ ?_); clear hK7 K7
  refine AWp.keep [1, 3, 4, 5, 6, 7, 19] rfl ?_
  refine AWp.cond rfl (fun hb8 => ?_) (fun hb8 => ?_)
  · have hc8 := hb8; clear hb8; try simp only [decide_eq_true_eq, decide_eq_false_iff_not, Bool.not_eq_true, Bool.not_eq_false, Int.not_lt, Int.not_le, Bool.not_eq_true', Bool.not_eq_false'] at hc8
    refine AWp.regK fun K9 hK9 => ?_
    refine AOps.read (ARead.move rfl rfl) rfl rfl rfl ?_
    refine AOps.read (ARead.move rfl rfl) rfl rfl rfl ?_
    refine AOps.gread rfl rfl rfl rfl rfl (.cons 5 _ _ _ rfl (by first | exact .strip _ _ id | (refine .strip _ _ (fun h => ?_); simp_all; done) | exact .same _) .nil) (fun hG => ARead.move rfl rfl) rfl rfl ?_
    refine AOps.gread rfl rfl rfl rfl rfl (.cons 1 _ _ _ rfl (by first | exact .strip _ _ id | (refine .strip _ _ (fun h => ?_); simp_all; done) | exact .same _) .nil) (fun hG => ARead.load tabOk rfl rfl rfl (by repeat (first | exact Has.head _ | apply Has.tail)) (by first | decide | omega) rfl rfl) rfl rfl ?_
    refine AOps.keep [4, 5, 6, 7, 24, 25, 26] rfl ?_
    refine AOps.gpcall rfl rfl rfl rfl rfl (.cons 26 _ _ _ rfl (by first | exact .strip _ _ id | (refine .strip _ _ (fun h => ?_); simp_all; done) | exact .same _) .nil) rfl (by first | exact .inr ⟨rfl, rfl, rfl⟩ | exact .inl rfl) rfl (fun hG => nodeCheck_ok n f.ok) rfl rfl (fun N hN => ?_)
    refine AOps.gread rfl rfl rfl rfl rfl (.cons 25 _ _ _ rfl (by first | exact .strip _ _ id | (refine .strip _ _ (fun h => ?_); simp_all; done) | exact .same _) (.cons 27 _ _ _ rfl (by first | exact .strip _ _ id | (refine .strip _ _ (fun h => ?_); simp_all; done) | exact .same _) .nil)) (fun hG => ARead.binOp rfl rfl rfl rfl) rfl rfl ?_
    first | refine AOps.read (ARead.pickB rfl rfl rfl (by first | exact .strip _ _ id | (refine .strip _ _ (fun h => ?_); simp_all; done) | exact .same _) rfl (by first | exact .strip _ _ id | (refine .strip _ _ (fun h => ?_); simp_all; done) | exact .same _)) rfl rfl rfl ?_ | refine AOps.read (ARead.pick rfl rfl rfl) rfl rfl rfl ?_
    refine AOps.read (ARead.move rfl rfl) rfl rfl rfl ?_
    refine AOps.keep [4, 5, 6, 7, 30] rfl ?_
    refine AOps.gread rfl rfl rfl rfl rfl (.cons 7 _ _ _ rfl (by first | exact .strip _ _ id | (refine .strip _ _ (fun h => ?_); simp_all; done) | exact .same _) .nil) (fun hG => ARead.move rfl rfl) rfl rfl ?_
    refine AOps.gread rfl rfl rfl rfl rfl (.cons 5 _ _ _ rfl (by first | exact .strip _ _ id | (refine .strip _ _ (fun h => ?_); simp_all; done) | exact .same _) .nil) (fun hG => ARead.move rfl rfl) rfl rfl ?_
    refine AOps.gread rfl rfl rfl rfl rfl (.cons 31 _ _ _ rfl (by first | exact .strip _ _ id | (refine .strip _ _ (fun h => ?_); simp_all; done) | exact .same _) (.cons 32 _ _ _ rfl (by first | exact .strip _ _ id | (refine .strip _ _ (fun h => ?_); simp_all; done) | exact .same _) .nil)) (fun hG => ARead.binOp rfl rfl rfl rfl) rfl rfl ?_
    first | refine AOps.read (ARead.pickB rfl rfl rfl (by first | exact .strip _ _ id | (refine .strip _ _ (fun h => ?_); simp_all; done) | exact .same _) rfl (by first | exact .strip _ _ id | (refine .strip _ _ (fun h => ?_); simp_all; done) | exact .same _)) rfl rfl rfl ?_ | refine AOps.read (ARead.pick rfl rfl rfl) rfl rfl rfl ?_
    refine AOps.keep [4, 6, 34] rfl ?_
    refine AOps.read (ARead.move rfl rfl) rfl rfl rfl ?_
    refine AOps.gread rfl rfl rfl rfl rfl (.cons 4 _ _ _ rfl (by first | exact .strip _ _ id | (refine .strip _ _ (fun h => ?_); simp_all; done) | exact .same _) .nil) (fun hG => ARead.move rfl rfl) rfl rfl ?_
    refine AOps.gread rfl rfl rfl rfl rfl (.cons 36 _ _ _ rfl (by first | exact .strip _ _ id | (refine .strip _ _ (fun h => ?_); simp_all; done) | exact .same _) .nil) (fun hG => ARead.binOp rfl rfl rfl rfl) rfl rfl ?_
    first | refine AOps.read (ARead.pickB rfl rfl rfl (by first | exact .strip _ _ id | (refine .strip _ _ (fun h => ?_); simp_all; done) | exact .same _) rfl (by first | exact .strip _ _ id | (refine .strip _ _ (fun h => ?_); simp_all; done) | exact .same _)) rfl rfl rfl ?_ | refine AOps.read (ARead.pick rfl rfl rfl) rfl rfl rfl ?_
    refine AOps.keep [6, 38] rfl ?_
    refine AOps.read (ARead.move rfl rfl) rfl rfl rfl ?_
    refine AOps.gread rfl rfl rfl rfl rfl (.cons 6 _ _ _ rfl (by first | exact .strip _ _ id | (refine .strip _ _ (fun h => ?_); simp_all; done) | exact .same _) .nil) (fun hG => ARead.move rfl rfl) rfl rfl ?_
    first | refine AOps.gread rfl rfl rfl rfl rfl (.cons 40 _ _ _ rfl (by first | exact .strip _ _ id | (refine .strip _ _ (fun h => ?_); simp_all; done) | exact .same _) .nil) (fun hG => ARead.lenSl tabOk rfl rfl rfl rfl rfl) rfl rfl ?_ | refine AOps.gread rfl rfl rfl rfl rfl (.cons 40 _ _ _ rfl (by first | exact .strip _ _ id | (refine .strip _ _ (fun h => ?_); simp_all; done) | exact .same _) .nil) (fun hG => ARead.lenRow tabOk rfl rfl rfl rfl) rfl rfl ?_
    refine AOps.gread rfl rfl rfl rfl rfl (.cons 41 _ _ _ rfl (by first | exact .strip _ _ id | (refine .strip _ _ (fun h => ?_); simp_all; done) | exact .same _) .nil) (fun hG => ARead.binOp rfl rfl rfl rfl) rfl rfl ?_
    refine AOps.keep [39, 42] rfl ?_
    first | refine AOps.read (ARead.pickB rfl rfl rfl (by first | exact .strip _ _ id | (refine .strip _ _ (fun h => ?_); simp_all; done) | exact .same _) rfl (by first | exact .strip _ _ id | (refine .strip _ _ (fun h => ?_); simp_all; done) | exact .same _)) rfl rfl rfl ?_ | refine AOps.read (ARead.pick rfl rfl rfl) rfl rfl rfl ?_
    refine AOps.read (ARead.assign rfl rfl) rfl rfl rfl ?_
    refine AOps.nil (hK9 _ _ _ ?_); clear hK9 K9
    refine AWp.keep [2] rfl ?_
    refine AWp.ret ?_
    refine ⟨Or.inr rfl, _, (.tmp _ _ _ _ rfl .nil), ?_⟩
    (try clear hK9 K9); (try clear hK8 K8); (try clear hK7 K7); (try clear hK6 K6); (try clear hK5 K5); (try clear hK4 K4); (try clear hK3 K3); (try clear hK2 K2); (try clear hK1 K1)
    show packR _ = _
    simp only [packR]; unfold sizeF encErrF at *; simp_all <;> omega
  · have hc8 := hb8; clear hb8; try simp only [decide_eq_true_eq, decide_eq_false_iff_not, Bool.not_eq_true, Bool.not_eq_false, Int.not_lt, Int.not_le, Bool.not_eq_true', Bool.not_eq_false'] at hc8
    refine AWp.regK fun K10 hK10 => ?_
    refine AOps.read (ARead.move rfl rfl) rfl rfl rfl ?_
    refine AOps.read (ARead.binOp rfl rfl rfl rfl) rfl rfl rfl ?_
    refine AOps.read (ARead.assign rfl rfl) rfl rfl rfl ?_
    refine AOps.nil (hK10 _ _ _ ?_); clear hK10 K10
    refine AWp.keep [3, 4, 5, 6, 7, 44] rfl ?_
    refine AWp.cond rfl (fun hb11 => ?_) (fun hb11 => ?_)
    · have hc11 := hb11; clear hb11; try simp only [decide_eq_true_eq, decide_eq_false_iff_not, Bool.not_eq_true, Bool.not_eq_false, Int.not_lt, Int.not_le, Bool.not_eq_true', Bool.not_eq_false'] at hc11
      refine AWp.regK fun K12 hK12 => ?_
      refine AOps.read (ARead.move rfl rfl) rfl rfl rfl ?_
      refine AOps.read (ARead.move rfl rfl) rfl rfl rfl ?_
      refine AOps.gread rfl rfl rfl rfl rfl (.cons 5 _ _ _ rfl (by first | exact .strip _ _ id | (refine .strip _ _ (fun h => ?_); simp_all; done) | exact .same _) .nil) (fun hG => ARead.move rfl rfl) rfl rfl ?_
      refine AOps.gread rfl rfl rfl rfl rfl (.cons 49 _ _ _ rfl (by first | exact .strip _ _ id | (refine .strip _ _ (fun h => ?_); simp_all; done) | exact .same _) .nil) (fun hG => ARead.binOp rfl rfl rfl rfl) rfl rfl ?_
      refine AOps.keep [6, 7, 48, 50] rfl ?_
      first | refine AOps.read (ARead.pickB rfl rfl rfl (by first | exact .strip _ _ id | (refine .strip _ _ (fun h => ?_); simp_all; done) | exact .same _) rfl (by first | exact .strip _ _ id | (refine .strip _ _ (fun h => ?_); simp_all; done) | exact .same _)) rfl rfl rfl ?_ | refine AOps.read (ARead.pick rfl rfl rfl) rfl rfl rfl ?_
      refine AOps.read (ARead.move rfl rfl) rfl rfl rfl ?_
      refine AOps.gread rfl rfl rfl rfl rfl (.cons 7 _ _ _ rfl (by first | exact .strip _ _ id | (refine .strip _ _ (fun h => ?_); simp_all; done) | exact .same _) .nil) (fun hG => ARead.move rfl rfl) rfl rfl ?_
      refine AOps.gread rfl rfl rfl rfl rfl (.cons 53 _ _ _ rfl (by first | exact .strip _ _ id | (refine .strip _ _ (fun h => ?_); simp_all; done) | exact .same _) .nil) (fun hG => ARead.binOp rfl rfl rfl rfl) rfl rfl ?_
      refine AOps.keep [6, 52, 54] rfl ?_
      first | refine AOps.read (ARead.pickB rfl rfl rfl (by first | exact .strip _ _ id | (refine .strip _ _ (fun h => ?_); simp_all; done) | exact .same _) rfl (by first | exact .strip _ _ id | (refine .strip _ _ (fun h => ?_); simp_all; done) | exact .same _)) rfl rfl rfl ?_ | refine AOps.read (ARead.pick rfl rfl rfl) rfl rfl rfl ?_
      refine AOps.read (ARead.move rfl rfl) rfl rfl rfl ?_
      refine AOps.gread rfl rfl rfl rfl rfl (.cons 6 _ _ _ rfl (by first | exact .strip _ _ id | (refine .strip _ _ (fun h => ?_); simp_all; done) | exact .same _) .nil) (fun hG => ARead.move rfl rfl) rfl rfl ?_
      first | refine AOps.gread rfl rfl rfl rfl rfl (.cons 57 _ _ _ rfl (by first | exact .strip _ _ id | (refine .strip _ _ (fun h => ?_); simp_all; done) | exact .same _) .nil) (fun hG => ARead.lenSl tabOk rfl rfl rfl rfl rfl) rfl rfl ?_ | refine AOps.gread rfl rfl rfl rfl rfl (.cons 57 _ _ _ rfl (by first | exact .strip _ _ id | (refine .strip _ _ (fun h => ?_); simp_all; done) | exact .same _) .nil) (fun hG => ARead.lenRow tabOk rfl rfl rfl rfl) rfl rfl ?_
      refine AOps.keep [56, 58] rfl ?_
      refine AOps.gread rfl rfl rfl rfl rfl (.cons 58 _ _ _ rfl (by first | exact .strip _ _ id | (refine .strip _ _ (fun h => ?_); simp_all; done) | exact .same _) .nil) (fun hG => ARead.binOp rfl rfl rfl rfl) rfl rfl ?_
      first | refine AOps.read (ARead.pickB rfl rfl rfl (by first | exact .strip _ _ id | (refine .strip _ _ (fun h => ?_); simp_all; done) | exact .same _) rfl (by first | exact .strip _ _ id | (refine .strip _ _ (fun h => ?_); simp_all; done) | exact .same _)) rfl rfl rfl ?_ | refine AOps.read (ARead.pick rfl rfl rfl) rfl rfl rfl ?_
      refine AOps.read (ARead.assign rfl rfl) rfl rfl rfl ?_
      refine AOps.nil (hK12 _ _ _ ?_); clear hK12 K12
      refine AWp.keep [2] rfl ?_
      refine AWp.ret ?_
      refine ⟨Or.inr rfl, _, (.tmp _ _ _ _ rfl .nil), ?_⟩
      (try clear hK12 K12); (try clear hK11 K11); (try clear hK10 K10); (try clear hK9 K9); (try clear hK8 K8); (try clear hK7 K7); (try clear hK6 K6); (try clear hK5 K5); (try clear hK4 K4); (try clear hK3 K3); (try clear hK2 K2); (try clear hK1 K1)
      show packR _ = _
      simp only [packR]; unfold sizeF encErrF at *; simp_all <;> omega
    · have hc11 := hb11; clear hb11; try simp only [decide_eq_true_eq, decide_eq_false_iff_not, Bool.not_eq_true, Bool.not_eq_false, Int.not_lt, Int.not_le, Bool.not_eq_true', Bool.not_eq_false'] at hc11
      refine AWp.skip (hK5 _ _ _ ?_); try clear hK5 K5
      refine AWp.keep [3, 4, 5, 6, 7] rfl ?_
      refine AWp.regK fun K13 hK13 => ?_
      refine AOps.read (ARead.move rfl rfl) rfl rfl rfl ?_
      refine AOps.read (ARead.move rfl rfl) rfl rfl rfl ?_
      refine AOps.gread rfl rfl rfl rfl rfl (.cons 5 _ _ _ rfl (by first | exact .strip _ _ id | (refine .strip _ _ (fun h => ?_); simp_all; done) | exact .same _) .nil) (fun hG => ARead.move rfl rfl) rfl rfl ?_
      refine AOps.gread rfl rfl rfl rfl rfl (.cons 63 _ _ _ rfl (by first | exact .strip _ _ id | (refine .strip _ _ (fun h => ?_); simp_all; done) | exact .same _) .nil) (fun hG => ARead.binOp rfl rfl rfl rfl) rfl rfl ?_
      refine AOps.keep [4, 6, 7, 62, 64] rfl ?_
      first | refine AOps.read (ARead.pickB rfl rfl rfl (by first | exact .strip _ _ id | (refine .strip _ _ (fun h => ?_); simp_all; done) | exact .same _) rfl (by first | exact .strip _ _ id | (refine .strip _ _ (fun h => ?_); simp_all; done) | exact .same _)) rfl rfl rfl ?_ | refine AOps.read (ARead.pick rfl rfl rfl) rfl rfl rfl ?_
      refine AOps.read (ARead.move rfl rfl) rfl rfl rfl ?_
      refine AOps.gread rfl rfl rfl rfl rfl (.cons 7 _ _ _ rfl (by first | exact .strip _ _ id | (refine .strip _ _ (fun h => ?_); simp_all; done) | exact .same _) .nil) (fun hG => ARead.move rfl rfl) rfl rfl ?_
      refine AOps.gread rfl rfl rfl rfl rfl (.cons 67 _ _ _ rfl (by first | exact .strip _ _ id | (refine .strip _ _ (fun h => ?_); simp_all; done) | exact .same _) .nil) (fun hG => ARead.binOp rfl rfl rfl rfl) rfl rfl ?_
      refine AOps.keep [4, 6, 66, 68] rfl ?_
      first | refine AOps.read (ARead.pickB rfl rfl rfl (by first | exact .strip _ _ id | (refine .strip _ _ (fun h => ?_); simp_all; done) | exact .same _) rfl (by first | exact .strip _ _ id | (refine .strip _ _ (fun h => ?_); simp_all; done) | exact .same _)) rfl rfl rfl ?_ | refine AOps.read (ARead.pick rfl rfl rfl) rfl rfl rfl ?_
      refine AOps.read (ARead.move rfl rfl) rfl rfl rfl ?_
      refine AOps.gread rfl rfl rfl rfl rfl (.cons 6 _ _ _ rfl (by first | exact .strip _ _ id | (refine .strip _ _ (fun h => ?_); simp_all; done) | exact .same _) .nil) (fun hG => ARead.move rfl rfl) rfl rfl ?_
      first | refine AOps.gread rfl rfl rfl rfl rfl (.cons 71 _ _ _ rfl (by first | exact .strip _ _ id | (refine .strip _ _ (fun h => ?_); simp_all; done) | exact .same _) .nil) (fun hG => ARead.lenSl tabOk rfl rfl rfl rfl rfl) rfl rfl ?_ | refine AOps.gread rfl rfl rfl rfl rfl (.cons 71 _ _ _ rfl (by first | exact .strip _ _ id | (refine .strip _ _ (fun h => ?_); simp_all; done) | exact .same _) .nil) (fun hG => ARead.lenRow tabOk rfl rfl rfl rfl) rfl rfl ?_
      refine AOps.keep [4, 70, 72] rfl ?_
      refine AOps.gread rfl rfl rfl rfl rfl (.cons 4 _ _ _ rfl (by first | exact .strip _ _ id | (refine .strip _ _ (fun h => ?_); simp_all; done) | exact .same _) .nil) (fun hG => ARead.move rfl rfl) rfl rfl ?_
      refine AOps.gread rfl rfl rfl rfl rfl (.cons 72 _ _ _ rfl (by first | exact .strip _ _ id | (refine .strip _ _ (fun h => ?_); simp_all; done) | exact .same _) (.cons 73 _ _ _ rfl (by first | exact .strip _ _ id | (refine .strip _ _ (fun h => ?_); simp_all; done) | exact .same _) .nil)) (fun hG => ARead.binOp rfl rfl rfl rfl) rfl rfl ?_
      first | refine AOps.read (ARead.pickB rfl rfl rfl (by first | exact .strip _ _ id | (refine .strip _ _ (fun h => ?_); simp_all; done) | exact .same _) rfl (by first | exact .strip _ _ id | (refine .strip _ _ (fun h => ?_); simp_all; done) | exact .same _)) rfl rfl rfl ?_ | refine AOps.read (ARead.pick rfl rfl rfl) rfl rfl rfl ?_
      refine AOps.read (ARead.assign rfl rfl) rfl rfl rfl ?_
      refine AOps.nil (hK13 _ _ _ ?_); clear hK13 K13
      refine AWp.keep [2] rfl ?_
      refine AWp.ret ?_
      refine ⟨Or.inr rfl, _, (.tmp _ _ _ _ rfl .nil), ?_⟩
      (try clear hK13 K13); (try clear hK12 K12); (try clear hK11 K11); (try clear hK10 K10); (try clear hK9 K9); (try clear hK8 K8); (try clear hK7 K7); (try clear hK6 K6); (try clear hK5 K5); (try clear hK4 K4); (try clear hK3 K3); (try clear hK2 K2); (try clear hK1 K1)
      show packR _ = _
      simp only [packR]; unfold sizeF encErrF at *; simp_all <;> omega

theorem lawNodeSizes_ok (n : Nd) (f : NdFit n) : APure Try.prog 10 [ndA n] (vb true) := by
  by_cases h : encErrF n = 0
  · exact nodeSizes_fine n f h
  · exact nodeSizes_err n f h

end Go.Sl
