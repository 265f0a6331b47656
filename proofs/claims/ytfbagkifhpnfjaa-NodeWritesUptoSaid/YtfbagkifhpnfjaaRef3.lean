/- Walks of the references 01, 02, 04, 12 and parts of 13: they answer as the code does. No condition beside those in the statements. -/
import Derived.Test.YtfbagkifhpnfjaaNode3
import Derived.Test.YtfbagkifhpnfjaaNode7
import Derived.Test.YtfbagkifhpnfjaaNode4
namespace Go.Sl
open Go Go.Proofs 
set_option linter.unusedVariables false
set_option linter.unusedSimpArgs false
set_option maxRecDepth 20000
set_option maxHeartbeats 400000
theorem vb_eq {a b : Bool} (h : a = true ↔ b = true) : vb a = vb b := by
  cases a <;> cases b <;> simp_all

theorem rCheckKey_ok (k : Str) : APure Try.prog 18 [vs k] (vi (checkKeyF k)) := by
  refine APure.intro fun N0 => ?_
  refine ACall.of_body tabOk (tab := tab) (fn := Try.f18) Try.func18 (by kernel_rfl) rfl (by simp [Try.f18]) ?_
  show AWp Try.prog 11 _ N0 [(0, vs k)] [] _
  refine AWp.regK fun K1 hK1 => ?_
  refine AOps.read (ARead.assign rfl rfl) rfl rfl rfl ?_
  refine AOps.nil (hK1 _ _ _ ?_); clear hK1 K1
  refine AWp.keep [0] rfl ?_
  refine AWp.seqK fun K2 hK2 => ?_
  refine AWp.regK fun K3 hK3 => ?_
  refine AOps.read (ARead.move rfl rfl) rfl rfl rfl ?_
  refine AOps.read (ARead.lenStr tabOk rfl rfl rfl rfl) rfl rfl rfl ?_
  refine AOps.read (ARead.binOp rfl rfl rfl rfl) rfl rfl rfl ?_
  refine AOps.read (ARead.move rfl rfl) rfl rfl rfl ?_
  refine AOps.keep [0, 6] rfl ?_
  refine AOps.gread rfl rfl rfl rfl rfl (.cons 0 _ _ _ rfl (by first | exact .strip _ _ id | (refine .strip _ _ (fun h => ?_); simp_all; done) | exact .same _) .nil) (fun hG => ARead.move rfl rfl) rfl rfl ?_
  refine AOps.gread rfl rfl rfl rfl rfl (.cons 7 _ _ _ rfl (by first | exact .strip _ _ id | (refine .strip _ _ (fun h => ?_); simp_all; done) | exact .same _) .nil) (fun hG => ARead.lenStr tabOk rfl rfl rfl rfl) rfl rfl ?_
  refine AOps.gread rfl rfl rfl rfl rfl (.cons 8 _ _ _ rfl (by first | exact .strip _ _ id | (refine .strip _ _ (fun h => ?_); simp_all; done) | exact .same _) .nil) (fun hG => ARead.binOp rfl rfl rfl rfl) rfl rfl ?_
  first | refine AOps.read (ARead.pickB rfl rfl rfl (by first | exact .strip _ _ id | (refine .strip _ _ (fun h => ?_); simp_all; done) | exact .same _) rfl (by first | exact .strip _ _ id | (refine .strip _ _ (fun h => ?_); simp_all; done) | exact .same _)) rfl rfl rfl ?_ | refine AOps.read (ARead.pick rfl rfl rfl) rfl rfl rfl ?_
  refine AOps.nil (hK3 _ _ _ ?_); clear hK3 K3
  refine AWp.keep [10] rfl ?_
  refine AWp.cond rfl (fun hb4 => ?_) (fun hb4 => ?_)
  · have hc4 := hb4; clear hb4; try simp only [decide_eq_true_eq, decide_eq_false_iff_not, Bool.not_eq_true, Bool.not_eq_false, Int.not_lt, Int.not_le, Bool.not_eq_true', Bool.not_eq_false'] at hc4
    refine AWp.regK fun K5 hK5 => ?_
    refine AOps.read (ARead.assign rfl rfl) rfl rfl rfl ?_
    refine AOps.nil (hK5 _ _ _ ?_); clear hK5 K5
    refine AWp.keep [2] rfl ?_
    refine AWp.ret ?_
    refine ⟨Or.inr rfl, _, (.tmp _ _ _ _ rfl .nil), ?_⟩
    (try clear hK5 K5); (try clear hK4 K4); (try clear hK3 K3); (try clear hK2 K2); (try clear hK1 K1)
    show packR _ = _
    have e := @List.length_eq_zero_iff _ k; grind [packR, checkKeyF]
  · have hc4 := hb4; clear hb4; try simp only [decide_eq_true_eq, decide_eq_false_iff_not, Bool.not_eq_true, Bool.not_eq_false, Int.not_lt, Int.not_le, Bool.not_eq_true', Bool.not_eq_false'] at hc4
    refine AWp.skip (hK2 _ _ _ ?_); try clear hK2 K2
    refine AWp.keep [] rfl ?_
    refine AWp.regK fun K6 hK6 => ?_
    refine AOps.read (ARead.assign rfl rfl) rfl rfl rfl ?_
    refine AOps.nil (hK6 _ _ _ ?_); clear hK6 K6
    refine AWp.keep [2] rfl ?_
    refine AWp.ret ?_
    refine ⟨Or.inr rfl, _, (.tmp _ _ _ _ rfl .nil), ?_⟩
    (try clear hK6 K6); (try clear hK5 K5); (try clear hK4 K4); (try clear hK3 K3); (try clear hK2 K2); (try clear hK1 K1)
    show packR _ = _
    have e := @List.length_eq_zero_iff _ k; grind [packR, checkKeyF]

theorem rSpanCheck_ok (lo hi : Str) : APure Try.prog 102 [.agg [vs lo, vs hi]] (vi (spanCheckF lo hi)) := by
  refine APure.intro fun N0 => ?_
  refine ACall.of_body tabOk (tab := tab) (fn := Try.f102) Try.func102 (by kernel_rfl) rfl (by simp [Try.f102]) ?_
  show AWp Try.prog 25 _ N0 [(0, .agg [vs lo, vs hi])] [] _
  refine AWp.regK fun K1 hK1 => ?_
  refine AOps.op1 (AOp.box rfl rfl rfl) rfl rfl rfl ?_
  refine AOps.read (ARead.assign rfl rfl) rfl rfl rfl ?_
  refine AOps.nil (hK1 _ _ _ ?_); clear hK1 K1
  refine AWp.keep [1] rfl ?_
  refine AWp.seqK fun K2 hK2 => ?_
  refine AWp.regK fun K3 hK3 => ?_
  refine AOps.read (ARead.fieldAddr tabOk rfl rfl rfl rfl (by decide) rfl) rfl rfl rfl ?_
  refine AOps.read (ARead.load tabOk rfl rfl rfl (by repeat (first | exact Has.head _ | apply Has.tail)) (by first | decide | omega) rfl rfl) rfl rfl rfl ?_
  refine AOps.read (ARead.lenStr tabOk rfl rfl rfl rfl) rfl rfl rfl ?_
  refine AOps.read (ARead.binOp rfl rfl rfl rfl) rfl rfl rfl ?_
  refine AOps.keep [1, 6] rfl ?_
  refine AOps.read (ARead.move rfl rfl) rfl rfl rfl ?_
  refine AOps.gread rfl rfl rfl rfl rfl (.cons 1 _ _ _ rfl (by first | exact .strip _ _ id | (refine .strip _ _ (fun h => ?_); simp_all; done) | exact .same _) .nil) (fun hG => ARead.fieldAddr tabOk rfl rfl rfl rfl (by decide) rfl) rfl rfl ?_
  refine AOps.gread rfl rfl rfl rfl rfl (.cons 8 _ _ _ rfl (by first | exact .strip _ _ id | (refine .strip _ _ (fun h => ?_); simp_all; done) | exact .same _) .nil) (fun hG => ARead.load tabOk rfl rfl rfl (by repeat (first | exact Has.head _ | apply Has.tail)) (by first | decide | omega) rfl rfl) rfl rfl ?_
  refine AOps.gread rfl rfl rfl rfl rfl (.cons 9 _ _ _ rfl (by first | exact .strip _ _ id | (refine .strip _ _ (fun h => ?_); simp_all; done) | exact .same _) .nil) (fun hG => ARead.lenStr tabOk rfl rfl rfl rfl) rfl rfl ?_
  refine AOps.keep [1, 7, 10] rfl ?_
  refine AOps.gread rfl rfl rfl rfl rfl (.cons 10 _ _ _ rfl (by first | exact .strip _ _ id | (refine .strip _ _ (fun h => ?_); simp_all; done) | exact .same _) .nil) (fun hG => ARead.binOp rfl rfl rfl rfl) rfl rfl ?_
  first | refine AOps.read (ARead.pickB rfl rfl rfl (by first | exact .strip _ _ id | (refine .strip _ _ (fun h => ?_); simp_all; done) | exact .same _) rfl (by first | exact .strip _ _ id | (refine .strip _ _ (fun h => ?_); simp_all; done) | exact .same _)) rfl rfl rfl ?_ | refine AOps.read (ARead.pick rfl rfl rfl) rfl rfl rfl ?_
  refine AOps.read (ARead.move rfl rfl) rfl rfl rfl ?_
  refine AOps.gread rfl rfl rfl rfl rfl (.cons 1 _ _ _ rfl (by first | exact .strip _ _ id | (refine .strip _ _ (fun h => ?_); simp_all; done) | exact .same _) .nil) (fun hG => ARead.fieldAddr tabOk rfl rfl rfl rfl (by decide) rfl) rfl rfl ?_
  refine AOps.keep [1, 13, 14] rfl ?_
  refine AOps.gread rfl rfl rfl rfl rfl (.cons 14 _ _ _ rfl (by first | exact .strip _ _ id | (refine .strip _ _ (fun h => ?_); simp_all; done) | exact .same _) .nil) (fun hG => ARead.load tabOk rfl rfl rfl (by repeat (first | exact Has.head _ | apply Has.tail)) (by first | decide | omega) rfl rfl) rfl rfl ?_
  refine AOps.gread rfl rfl rfl rfl rfl (.cons 15 _ _ _ rfl (by first | exact .strip _ _ id | (refine .strip _ _ (fun h => ?_); simp_all; done) | exact .same _) .nil) (fun hG => ARead.binOp rfl rfl rfl rfl) rfl rfl ?_
  refine AOps.gread rfl rfl rfl rfl rfl (.cons 16 _ _ _ rfl (by first | exact .strip _ _ id | (refine .strip _ _ (fun h => ?_); simp_all; done) | exact .same _) .nil) (fun hG => ARead.move rfl rfl) rfl rfl ?_
  refine AOps.gread rfl rfl rfl rfl rfl (.cons 1 _ _ _ rfl (by first | exact .strip _ _ id | (refine .strip _ _ (fun h => ?_); simp_all; done) | exact .same _) .nil) (fun hG => ARead.fieldAddr tabOk rfl rfl rfl rfl (by decide) rfl) rfl rfl ?_
  refine AOps.keep [1, 13, 17, 18] rfl ?_
  refine AOps.gread rfl rfl rfl rfl rfl (.cons 18 _ _ _ rfl (by first | exact .strip _ _ id | (refine .strip _ _ (fun h => ?_); simp_all; done) | exact .same _) .nil) (fun hG => ARead.load tabOk rfl rfl rfl (by repeat (first | exact Has.head _ | apply Has.tail)) (by first | decide | omega) rfl rfl) rfl rfl ?_
  refine AOps.gread rfl rfl rfl rfl rfl (.cons 1 _ _ _ rfl (by first | exact .strip _ _ id | (refine .strip _ _ (fun h => ?_); simp_all; done) | exact .same _) .nil) (fun hG => ARead.fieldAddr tabOk rfl rfl rfl rfl (by decide) rfl) rfl rfl ?_
  refine AOps.gread rfl rfl rfl rfl rfl (.cons 20 _ _ _ rfl (by first | exact .strip _ _ id | (refine .strip _ _ (fun h => ?_); simp_all; done) | exact .same _) .nil) (fun hG => ARead.load tabOk rfl rfl rfl (by repeat (first | exact Has.head _ | apply Has.tail)) (by first | decide | omega) rfl rfl) rfl rfl ?_
  refine AOps.gread rfl rfl rfl rfl rfl (.cons 19 _ _ _ rfl (by first | exact .strip _ _ id | (refine .strip _ _ (fun h => ?_); simp_all; done) | exact .same _) (.cons 21 _ _ _ rfl (by first | exact .strip _ _ id | (refine .strip _ _ (fun h => ?_); simp_all; done) | exact .same _) .nil)) (fun hG => ARead.binOp rfl rfl rfl rfl) rfl rfl ?_
  refine AOps.keep [13, 17, 22] rfl ?_
  first | refine AOps.gread rfl rfl rfl rfl rfl (.cons 17 _ _ _ rfl (by first | exact .strip _ _ id | (refine .strip _ _ (fun h => ?_); simp_all; done) | exact .same _) (.cons 22 _ _ _ rfl (by first | exact .strip _ _ id | (refine .strip _ _ (fun h => ?_); simp_all; done) | exact .same _) .nil)) (fun hG => ARead.pickB rfl rfl rfl (by first | exact .strip _ _ id | (refine .strip _ _ (fun h => ?_); simp_all; done) | exact .same _) rfl (by first | exact .strip _ _ id | (refine .strip _ _ (fun h => ?_); simp_all; done) | exact .same _)) rfl rfl ?_ | refine AOps.gread rfl rfl rfl rfl rfl (.cons 17 _ _ _ rfl (by first | exact .strip _ _ id | (refine .strip _ _ (fun h => ?_); simp_all; done) | exact .same _) (.cons 22 _ _ _ rfl (by first | exact .strip _ _ id | (refine .strip _ _ (fun h => ?_); simp_all; done) | exact .same _) .nil)) (fun hG => ARead.pick rfl rfl rfl) rfl rfl ?_
  first | refine AOps.read (ARead.pickB rfl rfl rfl (by first | exact .strip _ _ id | (refine .strip _ _ (fun h => ?_); simp_all; done) | exact .same _) rfl (by first | exact .strip _ _ id | (refine .strip _ _ (fun h => ?_); simp_all; done) | exact .same _)) rfl rfl rfl ?_ | refine AOps.read (ARead.pick rfl rfl rfl) rfl rfl rfl ?_
  refine AOps.nil (hK3 _ _ _ ?_); clear hK3 K3
  refine AWp.keep [24] rfl ?_
  refine AWp.cond rfl (fun hb4 => ?_) (fun hb4 => ?_)
  · have hc4 := hb4; clear hb4; try simp only [decide_eq_true_eq, decide_eq_false_iff_not, Bool.not_eq_true, Bool.not_eq_false, Int.not_lt, Int.not_le, Bool.not_eq_true', Bool.not_eq_false'] at hc4
    refine AWp.regK fun K5 hK5 => ?_
    refine AOps.read (ARead.assign rfl rfl) rfl rfl rfl ?_
    refine AOps.nil (hK5 _ _ _ ?_); clear hK5 K5
    refine AWp.keep [2] rfl ?_
    refine AWp.ret ?_
    refine ⟨Or.inr rfl, _, (.tmp _ _ _ _ rfl .nil), ?_⟩
    (try clear hK5 K5); (try clear hK4 K4); (try clear hK3 K3); (try clear hK2 K2); (try clear hK1 K1)
    show packR _ = _
    grind [packR, spanCheckF]
  · have hc4 := hb4; clear hb4; try simp only [decide_eq_true_eq, decide_eq_false_iff_not, Bool.not_eq_true, Bool.not_eq_false, Int.not_lt, Int.not_le, Bool.not_eq_true', Bool.not_eq_false'] at hc4
    refine AWp.skip (hK2 _ _ _ ?_); try clear hK2 K2
    refine AWp.keep [] rfl ?_
    refine AWp.regK fun K6 hK6 => ?_
    refine AOps.read (ARead.assign rfl rfl) rfl rfl rfl ?_
    refine AOps.nil (hK6 _ _ _ ?_); clear hK6 K6
    refine AWp.keep [2] rfl ?_
    refine AWp.ret ?_
    refine ⟨Or.inr rfl, _, (.tmp _ _ _ _ rfl .nil), ?_⟩
    (try clear hK6 K6); (try clear hK5 K5); (try clear hK4 K4); (try clear hK3 K3); (try clear hK2 K2); (try clear hK1 K1)
    show packR _ = _
    grind [packR, spanCheckF]

theorem rBelow_ok (a b : Str) : APure Try.prog 138 [vs a, vs b] (vb (decide (a ≠ [] ∧ (b = [] ∨ Op.bytesLess a b = true)))) := by
  refine APure.intro fun N0 => ?_
  refine ACall.of_body tabOk (tab := tab) (fn := Try.f138) Try.func138 (by kernel_rfl) rfl (by simp [Try.f138]) ?_
  show AWp Try.prog 16 _ N0 [(0, vs a), (1, vs b)] [] _
  refine AWp.regK fun K1 hK1 => ?_
  refine AOps.read (ARead.assign rfl rfl) rfl rfl rfl ?_
  refine AOps.nil (hK1 _ _ _ ?_); clear hK1 K1
  refine AWp.keep [0, 1] rfl ?_
  refine AWp.regK fun K2 hK2 => ?_
  refine AOps.read (ARead.move rfl rfl) rfl rfl rfl ?_
  refine AOps.read (ARead.binOp rfl rfl rfl rfl) rfl rfl rfl ?_
  refine AOps.read (ARead.move rfl rfl) rfl rfl rfl ?_
  refine AOps.gread rfl rfl rfl rfl rfl (.cons 1 _ _ _ rfl (by first | exact .strip _ _ id | (refine .strip _ _ (fun h => ?_); simp_all; done) | exact .same _) .nil) (fun hG => ARead.move rfl rfl) rfl rfl ?_
  refine AOps.keep [0, 1, 7, 8] rfl ?_
  refine AOps.gread rfl rfl rfl rfl rfl (.cons 8 _ _ _ rfl (by first | exact .strip _ _ id | (refine .strip _ _ (fun h => ?_); simp_all; done) | exact .same _) .nil) (fun hG => ARead.binOp rfl rfl rfl rfl) rfl rfl ?_
  refine AOps.gread rfl rfl rfl rfl rfl (.cons 9 _ _ _ rfl (by first | exact .strip _ _ id | (refine .strip _ _ (fun h => ?_); simp_all; done) | exact .same _) .nil) (fun hG => ARead.move rfl rfl) rfl rfl ?_
  refine AOps.gread rfl rfl rfl rfl rfl (.cons 0 _ _ _ rfl (by first | exact .strip _ _ id | (refine .strip _ _ (fun h => ?_); simp_all; done) | exact .same _) .nil) (fun hG => ARead.move rfl rfl) rfl rfl ?_
  refine AOps.gread rfl rfl rfl rfl rfl (.cons 1 _ _ _ rfl (by first | exact .strip _ _ id | (refine .strip _ _ (fun h => ?_); simp_all; done) | exact .same _) .nil) (fun hG => ARead.move rfl rfl) rfl rfl ?_
  refine AOps.keep [7, 10, 11, 12] rfl ?_
  refine AOps.gread rfl rfl rfl rfl rfl (.cons 11 _ _ _ rfl (by first | exact .strip _ _ id | (refine .strip _ _ (fun h => ?_); simp_all; done) | exact .same _) (.cons 12 _ _ _ rfl (by first | exact .strip _ _ id | (refine .strip _ _ (fun h => ?_); simp_all; done) | exact .same _) .nil)) (fun hG => ARead.binOp rfl rfl rfl rfl) rfl rfl ?_
  first | refine AOps.gread rfl rfl rfl rfl rfl (.cons 10 _ _ _ rfl (by first | exact .strip _ _ id | (refine .strip _ _ (fun h => ?_); simp_all; done) | exact .same _) (.cons 13 _ _ _ rfl (by first | exact .strip _ _ id | (refine .strip _ _ (fun h => ?_); simp_all; done) | exact .same _) .nil)) (fun hG => ARead.pickB rfl rfl rfl (by first | exact .strip _ _ id | (refine .strip _ _ (fun h => ?_); simp_all; done) | exact .same _) rfl (by first | exact .strip _ _ id | (refine .strip _ _ (fun h => ?_); simp_all; done) | exact .same _)) rfl rfl ?_ | refine AOps.gread rfl rfl rfl rfl rfl (.cons 10 _ _ _ rfl (by first | exact .strip _ _ id | (refine .strip _ _ (fun h => ?_); simp_all; done) | exact .same _) (.cons 13 _ _ _ rfl (by first | exact .strip _ _ id | (refine .strip _ _ (fun h => ?_); simp_all; done) | exact .same _) .nil)) (fun hG => ARead.pick rfl rfl rfl) rfl rfl ?_
  first | refine AOps.read (ARead.pickB rfl rfl rfl (by first | exact .strip _ _ id | (refine .strip _ _ (fun h => ?_); simp_all; done) | exact .same _) rfl (by first | exact .strip _ _ id | (refine .strip _ _ (fun h => ?_); simp_all; done) | exact .same _)) rfl rfl rfl ?_ | refine AOps.read (ARead.pick rfl rfl rfl) rfl rfl rfl ?_
  refine AOps.read (ARead.assign rfl rfl) rfl rfl rfl ?_
  refine AOps.nil (hK2 _ _ _ ?_); clear hK2 K2
  refine AWp.keep [4] rfl ?_
  refine AWp.ret ?_
  refine ⟨Or.inr rfl, _, (.tmp _ _ _ _ rfl .nil), ?_⟩
  (try clear hK2 K2); (try clear hK1 K1)
  show packR _ = _
  refine vb_eq ?_; grind

theorem rHas_ok (lo hi k : Str) : APure Try.prog 52 [.agg [vs lo, vs hi], vs k] (vb (spanHasF lo hi k)) := by
  refine APure.intro fun N0 => ?_
  refine ACall.of_body tabOk (tab := tab) (fn := Try.f52) Try.func52 (by kernel_rfl) rfl (by simp [Try.f52]) ?_
  show AWp Try.prog 30 _ N0 [(0, .agg [vs lo, vs hi]), (1, vs k)] [] _
  refine AWp.regK fun K1 hK1 => ?_
  refine AOps.op1 (AOp.box rfl rfl rfl) rfl rfl rfl ?_
  refine AOps.read (ARead.assign rfl rfl) rfl rfl rfl ?_
  refine AOps.nil (hK1 _ _ _ ?_); clear hK1 K1
  refine AWp.keep [1, 2] rfl ?_
  refine AWp.regK fun K2 hK2 => ?_
  refine AOps.read (ARead.load tabOk rfl rfl rfl (by repeat (first | exact Has.head _ | apply Has.tail)) (by first | decide | omega) rfl rfl) rfl rfl rfl ?_
  refine AOps.pcall (rSpanCheck_ok _ _) rfl (by first | exact .inr ⟨rfl, rfl, rfl⟩ | exact .inl rfl) rfl rfl rfl rfl (fun N hN => ?_)
  refine AOps.read (ARead.binOp rfl rfl rfl rfl) rfl rfl rfl ?_
  refine AOps.read (ARead.move rfl rfl) rfl rfl rfl ?_
  refine AOps.keep [1, 2, 8] rfl ?_
  refine AOps.gread rfl rfl rfl rfl rfl (.cons 1 _ _ _ rfl (by first | exact .strip _ _ id | (refine .strip _ _ (fun h => ?_); simp_all; done) | exact .same _) .nil) (fun hG => ARead.move rfl rfl) rfl rfl ?_
  refine AOps.gpcall rfl rfl rfl rfl rfl (.cons 9 _ _ _ rfl (by first | exact .strip _ _ id | (refine .strip _ _ (fun h => ?_); simp_all; done) | exact .same _) .nil) rfl (by first | exact .inr ⟨rfl, rfl, rfl⟩ | exact .inl rfl) rfl (fun hG => rCheckKey_ok _) rfl rfl (fun N hN => ?_)
  refine AOps.gread rfl rfl rfl rfl rfl (.cons 10 _ _ _ rfl (by first | exact .strip _ _ id | (refine .strip _ _ (fun h => ?_); simp_all; done) | exact .same _) .nil) (fun hG => ARead.binOp rfl rfl rfl rfl) rfl rfl ?_
  first | refine AOps.read (ARead.pickB rfl rfl rfl (by first | exact .strip _ _ id | (refine .strip _ _ (fun h => ?_); simp_all; done) | exact .same _) rfl (by first | exact .strip _ _ id | (refine .strip _ _ (fun h => ?_); simp_all; done) | exact .same _)) rfl rfl rfl ?_ | refine AOps.read (ARead.pick rfl rfl rfl) rfl rfl rfl ?_
  refine AOps.keep [1, 2, 12] rfl ?_
  refine AOps.read (ARead.move rfl rfl) rfl rfl rfl ?_
  refine AOps.gread rfl rfl rfl rfl rfl (.cons 1 _ _ _ rfl (by first | exact .strip _ _ id | (refine .strip _ _ (fun h => ?_); simp_all; done) | exact .same _) .nil) (fun hG => ARead.move rfl rfl) rfl rfl ?_
  refine AOps.gread rfl rfl rfl rfl rfl (.cons 2 _ _ _ rfl (by first | exact .strip _ _ id | (refine .strip _ _ (fun h => ?_); simp_all; done) | exact .same _) .nil) (fun hG => ARead.fieldAddr tabOk rfl rfl rfl rfl (by decide) rfl) rfl rfl ?_
  refine AOps.gread rfl rfl rfl rfl rfl (.cons 15 _ _ _ rfl (by first | exact .strip _ _ id | (refine .strip _ _ (fun h => ?_); simp_all; done) | exact .same _) .nil) (fun hG => ARead.load tabOk rfl rfl rfl (by repeat (first | exact Has.head _ | apply Has.tail)) (by first | decide | omega) rfl rfl) rfl rfl ?_
  refine AOps.keep [1, 2, 13, 14, 16] rfl ?_
  refine AOps.gread rfl rfl rfl rfl rfl (.cons 14 _ _ _ rfl (by first | exact .strip _ _ id | (refine .strip _ _ (fun h => ?_); simp_all; done) | exact .same _) (.cons 16 _ _ _ rfl (by first | exact .strip _ _ id | (refine .strip _ _ (fun h => ?_); simp_all; done) | exact .same _) .nil)) (fun hG => ARead.binOp rfl rfl rfl rfl) rfl rfl ?_
  first | refine AOps.read (ARead.pickB rfl rfl rfl (by first | exact .strip _ _ id | (refine .strip _ _ (fun h => ?_); simp_all; done) | exact .same _) rfl (by first | exact .strip _ _ id | (refine .strip _ _ (fun h => ?_); simp_all; done) | exact .same _)) rfl rfl rfl ?_ | refine AOps.read (ARead.pick rfl rfl rfl) rfl rfl rfl ?_
  refine AOps.read (ARead.move rfl rfl) rfl rfl rfl ?_
  refine AOps.gread rfl rfl rfl rfl rfl (.cons 2 _ _ _ rfl (by first | exact .strip _ _ id | (refine .strip _ _ (fun h => ?_); simp_all; done) | exact .same _) .nil) (fun hG => ARead.fieldAddr tabOk rfl rfl rfl rfl (by decide) rfl) rfl rfl ?_
  refine AOps.keep [1, 2, 19, 20] rfl ?_
  refine AOps.gread rfl rfl rfl rfl rfl (.cons 20 _ _ _ rfl (by first | exact .strip _ _ id | (refine .strip _ _ (fun h => ?_); simp_all; done) | exact .same _) .nil) (fun hG => ARead.load tabOk rfl rfl rfl (by repeat (first | exact Has.head _ | apply Has.tail)) (by first | decide | omega) rfl rfl) rfl rfl ?_
  refine AOps.gread rfl rfl rfl rfl rfl (.cons 21 _ _ _ rfl (by first | exact .strip _ _ id | (refine .strip _ _ (fun h => ?_); simp_all; done) | exact .same _) .nil) (fun hG => ARead.binOp rfl rfl rfl rfl) rfl rfl ?_
  refine AOps.gread rfl rfl rfl rfl rfl (.cons 22 _ _ _ rfl (by first | exact .strip _ _ id | (refine .strip _ _ (fun h => ?_); simp_all; done) | exact .same _) .nil) (fun hG => ARead.move rfl rfl) rfl rfl ?_
  refine AOps.gread rfl rfl rfl rfl rfl (.cons 1 _ _ _ rfl (by first | exact .strip _ _ id | (refine .strip _ _ (fun h => ?_); simp_all; done) | exact .same _) .nil) (fun hG => ARead.move rfl rfl) rfl rfl ?_
  refine AOps.keep [2, 19, 23, 24] rfl ?_
  refine AOps.gread rfl rfl rfl rfl rfl (.cons 2 _ _ _ rfl (by first | exact .strip _ _ id | (refine .strip _ _ (fun h => ?_); simp_all; done) | exact .same _) .nil) (fun hG => ARead.fieldAddr tabOk rfl rfl rfl rfl (by decide) rfl) rfl rfl ?_
  refine AOps.gread rfl rfl rfl rfl rfl (.cons 25 _ _ _ rfl (by first | exact .strip _ _ id | (refine .strip _ _ (fun h => ?_); simp_all; done) | exact .same _) .nil) (fun hG => ARead.load tabOk rfl rfl rfl (by repeat (first | exact Has.head _ | apply Has.tail)) (by first | decide | omega) rfl rfl) rfl rfl ?_
  refine AOps.gread rfl rfl rfl rfl rfl (.cons 24 _ _ _ rfl (by first | exact .strip _ _ id | (refine .strip _ _ (fun h => ?_); simp_all; done) | exact .same _) (.cons 26 _ _ _ rfl (by first | exact .strip _ _ id | (refine .strip _ _ (fun h => ?_); simp_all; done) | exact .same _) .nil)) (fun hG => ARead.binOp rfl rfl rfl rfl) rfl rfl ?_
  first | refine AOps.gread rfl rfl rfl rfl rfl (.cons 23 _ _ _ rfl (by first | exact .strip _ _ id | (refine .strip _ _ (fun h => ?_); simp_all; done) | exact .same _) (.cons 27 _ _ _ rfl (by first | exact .strip _ _ id | (refine .strip _ _ (fun h => ?_); simp_all; done) | exact .same _) .nil)) (fun hG => ARead.pickB rfl rfl rfl (by first | exact .strip _ _ id | (refine .strip _ _ (fun h => ?_); simp_all; done) | exact .same _) rfl (by first | exact .strip _ _ id | (refine .strip _ _ (fun h => ?_); simp_all; done) | exact .same _)) rfl rfl ?_ | refine AOps.gread rfl rfl rfl rfl rfl (.cons 23 _ _ _ rfl (by first | exact .strip _ _ id | (refine .strip _ _ (fun h => ?_); simp_all; done) | exact .same _) (.cons 27 _ _ _ rfl (by first | exact .strip _ _ id | (refine .strip _ _ (fun h => ?_); simp_all; done) | exact .same _) .nil)) (fun hG => ARead.pick rfl rfl rfl) rfl rfl ?_
  refine AOps.keep [19, 28] rfl ?_
  first | refine AOps.read (ARead.pickB rfl rfl rfl (by first | exact .strip _ _ id | (refine .strip _ _ (fun h => ?_); simp_all; done) | exact .same _) rfl (by first | exact .strip _ _ id | (refine .strip _ _ (fun h => ?_); simp_all; done) | exact .same _)) rfl rfl rfl ?_ | refine AOps.read (ARead.pick rfl rfl rfl) rfl rfl rfl ?_
  refine AOps.read (ARead.assign rfl rfl) rfl rfl rfl ?_
  refine AOps.nil (hK2 _ _ _ ?_); clear hK2 K2
  refine AWp.keep [4] rfl ?_
  refine AWp.ret ?_
  refine ⟨Or.inr rfl, _, (.tmp _ _ _ _ rfl .nil), ?_⟩
  (try clear hK2 K2); (try clear hK1 K1)
  show packR _ = _
  refine vb_eq ?_; have e : sle lo k = !Op.bytesLess k lo := ble_not; simp only [spanHasF, e]; grind

theorem rCovers_ok (alo ahi blo bhi : Str) : APure Try.prog 90 [.agg [vs alo, vs ahi], .agg [vs blo, vs bhi]] (vb (coversF alo ahi blo bhi)) := by
  refine APure.intro fun N0 => ?_
  refine ACall.of_body tabOk (tab := tab) (fn := Try.f90) Try.func90 (by kernel_rfl) rfl (by simp [Try.f90]) ?_
  show AWp Try.prog 28 _ N0 [(0, .agg [vs alo, vs ahi]), (1, .agg [vs blo, vs bhi])] [] _
  refine AWp.regK fun K1 hK1 => ?_
  refine AOps.op1 (AOp.box rfl rfl rfl) rfl rfl rfl ?_
  refine AOps.op1 (AOp.box rfl rfl rfl) rfl rfl rfl ?_
  refine AOps.read (ARead.assign rfl rfl) rfl rfl rfl ?_
  refine AOps.nil (hK1 _ _ _ ?_); clear hK1 K1
  refine AWp.keep [2, 3] rfl ?_
  refine AWp.regK fun K2 hK2 => ?_
  refine AOps.read (ARead.load tabOk rfl rfl rfl (by repeat (first | exact Has.head _ | apply Has.tail)) (by first | decide | omega) rfl rfl) rfl rfl rfl ?_
  refine AOps.pcall (rSpanCheck_ok _ _) rfl (by first | exact .inr ⟨rfl, rfl, rfl⟩ | exact .inl rfl) rfl rfl rfl rfl (fun N hN => ?_)
  refine AOps.read (ARead.binOp rfl rfl rfl rfl) rfl rfl rfl ?_
  refine AOps.read (ARead.move rfl rfl) rfl rfl rfl ?_
  refine AOps.keep [2, 3, 8] rfl ?_
  refine AOps.gread rfl rfl rfl rfl rfl (.cons 3 _ _ _ rfl (by first | exact .strip _ _ id | (refine .strip _ _ (fun h => ?_); simp_all; done) | exact .same _) .nil) (fun hG => ARead.load tabOk rfl rfl rfl (by repeat (first | exact Has.head _ | apply Has.tail)) (by first | decide | omega) rfl rfl) rfl rfl ?_
  refine AOps.gpcall rfl rfl rfl rfl rfl (.cons 9 _ _ _ rfl (by first | exact .strip _ _ id | (refine .strip _ _ (fun h => ?_); simp_all; done) | exact .same _) .nil) rfl (by first | exact .inr ⟨rfl, rfl, rfl⟩ | exact .inl rfl) rfl (fun hG => rSpanCheck_ok _ _) rfl rfl (fun N hN => ?_)
  refine AOps.gread rfl rfl rfl rfl rfl (.cons 10 _ _ _ rfl (by first | exact .strip _ _ id | (refine .strip _ _ (fun h => ?_); simp_all; done) | exact .same _) .nil) (fun hG => ARead.binOp rfl rfl rfl rfl) rfl rfl ?_
  first | refine AOps.read (ARead.pickB rfl rfl rfl (by first | exact .strip _ _ id | (refine .strip _ _ (fun h => ?_); simp_all; done) | exact .same _) rfl (by first | exact .strip _ _ id | (refine .strip _ _ (fun h => ?_); simp_all; done) | exact .same _)) rfl rfl rfl ?_ | refine AOps.read (ARead.pick rfl rfl rfl) rfl rfl rfl ?_
  refine AOps.keep [2, 3, 12] rfl ?_
  refine AOps.read (ARead.move rfl rfl) rfl rfl rfl ?_
  refine AOps.gread rfl rfl rfl rfl rfl (.cons 2 _ _ _ rfl (by first | exact .strip _ _ id | (refine .strip _ _ (fun h => ?_); simp_all; done) | exact .same _) .nil) (fun hG => ARead.fieldAddr tabOk rfl rfl rfl rfl (by decide) rfl) rfl rfl ?_
  refine AOps.gread rfl rfl rfl rfl rfl (.cons 14 _ _ _ rfl (by first | exact .strip _ _ id | (refine .strip _ _ (fun h => ?_); simp_all; done) | exact .same _) .nil) (fun hG => ARead.load tabOk rfl rfl rfl (by repeat (first | exact Has.head _ | apply Has.tail)) (by first | decide | omega) rfl rfl) rfl rfl ?_
  refine AOps.gread rfl rfl rfl rfl rfl (.cons 3 _ _ _ rfl (by first | exact .strip _ _ id | (refine .strip _ _ (fun h => ?_); simp_all; done) | exact .same _) .nil) (fun hG => ARead.fieldAddr tabOk rfl rfl rfl rfl (by decide) rfl) rfl rfl ?_
  refine AOps.keep [2, 3, 13, 15, 16] rfl ?_
  refine AOps.gread rfl rfl rfl rfl rfl (.cons 16 _ _ _ rfl (by first | exact .strip _ _ id | (refine .strip _ _ (fun h => ?_); simp_all; done) | exact .same _) .nil) (fun hG => ARead.load tabOk rfl rfl rfl (by repeat (first | exact Has.head _ | apply Has.tail)) (by first | decide | omega) rfl rfl) rfl rfl ?_
  refine AOps.gread rfl rfl rfl rfl rfl (.cons 15 _ _ _ rfl (by first | exact .strip _ _ id | (refine .strip _ _ (fun h => ?_); simp_all; done) | exact .same _) (.cons 17 _ _ _ rfl (by first | exact .strip _ _ id | (refine .strip _ _ (fun h => ?_); simp_all; done) | exact .same _) .nil)) (fun hG => ARead.binOp rfl rfl rfl rfl) rfl rfl ?_
  first | refine AOps.read (ARead.pickB rfl rfl rfl (by first | exact .strip _ _ id | (refine .strip _ _ (fun h => ?_); simp_all; done) | exact .same _) rfl (by first | exact .strip _ _ id | (refine .strip _ _ (fun h => ?_); simp_all; done) | exact .same _)) rfl rfl rfl ?_ | refine AOps.read (ARead.pick rfl rfl rfl) rfl rfl rfl ?_
  refine AOps.read (ARead.move rfl rfl) rfl rfl rfl ?_
  refine AOps.keep [2, 3, 20] rfl ?_
  refine AOps.gread rfl rfl rfl rfl rfl (.cons 2 _ _ _ rfl (by first | exact .strip _ _ id | (refine .strip _ _ (fun h => ?_); simp_all; done) | exact .same _) .nil) (fun hG => ARead.fieldAddr tabOk rfl rfl rfl rfl (by decide) rfl) rfl rfl ?_
  refine AOps.gread rfl rfl rfl rfl rfl (.cons 21 _ _ _ rfl (by first | exact .strip _ _ id | (refine .strip _ _ (fun h => ?_); simp_all; done) | exact .same _) .nil) (fun hG => ARead.load tabOk rfl rfl rfl (by repeat (first | exact Has.head _ | apply Has.tail)) (by first | decide | omega) rfl rfl) rfl rfl ?_
  refine AOps.gread rfl rfl rfl rfl rfl (.cons 3 _ _ _ rfl (by first | exact .strip _ _ id | (refine .strip _ _ (fun h => ?_); simp_all; done) | exact .same _) .nil) (fun hG => ARead.fieldAddr tabOk rfl rfl rfl rfl (by decide) rfl) rfl rfl ?_
  refine AOps.gread rfl rfl rfl rfl rfl (.cons 23 _ _ _ rfl (by first | exact .strip _ _ id | (refine .strip _ _ (fun h => ?_); simp_all; done) | exact .same _) .nil) (fun hG => ARead.load tabOk rfl rfl rfl (by repeat (first | exact Has.head _ | apply Has.tail)) (by first | decide | omega) rfl rfl) rfl rfl ?_
  refine AOps.keep [20, 22, 24] rfl ?_
  refine AOps.gpcall rfl rfl rfl rfl rfl (.cons 22 _ _ _ rfl (by first | exact .strip _ _ id | (refine .strip _ _ (fun h => ?_); simp_all; done) | exact .same _) (.cons 24 _ _ _ rfl (by first | exact .strip _ _ id | (refine .strip _ _ (fun h => ?_); simp_all; done) | exact .same _) .nil)) rfl (by first | exact .inr ⟨rfl, rfl, rfl⟩ | exact .inl rfl) rfl (fun hG => rBelow_ok _ _) rfl rfl (fun N hN => ?_)
  refine AOps.gread rfl rfl rfl rfl rfl (.cons 25 _ _ _ rfl (by first | exact .strip _ _ id | (refine .strip _ _ (fun h => ?_); simp_all; done) | exact .same _) .nil) (fun hG => ARead.unOp rfl rfl rfl) rfl rfl ?_
  first | refine AOps.read (ARead.pickB rfl rfl rfl (by first | exact .strip _ _ id | (refine .strip _ _ (fun h => ?_); simp_all; done) | exact .same _) rfl (by first | exact .strip _ _ id | (refine .strip _ _ (fun h => ?_); simp_all; done) | exact .same _)) rfl rfl rfl ?_ | refine AOps.read (ARead.pick rfl rfl rfl) rfl rfl rfl ?_
  refine AOps.read (ARead.assign rfl rfl) rfl rfl rfl ?_
  refine AOps.nil (hK2 _ _ _ ?_); clear hK2 K2
  refine AWp.keep [4] rfl ?_
  refine AWp.ret ?_
  refine ⟨Or.inr rfl, _, (.tmp _ _ _ _ rfl .nil), ?_⟩
  (try clear hK2 K2); (try clear hK1 K1)
  show packR _ = _
  refine vb_eq ?_; have e : sle bhi ahi = !Op.bytesLess ahi bhi := ble_not; simp only [sle] at e; simp only [coversF, leastF]; grind

theorem rWrites_ok (o : O6) : APure Try.prog 137 [o6A o] (vb (fWri o.kind)) := by
  refine APure.intro fun N0 => ?_
  refine ACall.of_body tabOk (tab := tab) (fn := Try.f137) Try.func137 (by kernel_rfl) rfl (by simp [Try.f137]) ?_
  show AWp Try.prog 16 _ N0 [(0, o6A o)] [] _
  refine AWp.regK fun K1 hK1 => ?_
  refine AOps.op1 (AOp.box rfl rfl rfl) rfl rfl rfl ?_
  refine AOps.read (ARead.assign rfl rfl) rfl rfl rfl ?_
  refine AOps.nil (hK1 _ _ _ ?_); clear hK1 K1
  refine AWp.keep [1] rfl ?_
  refine AWp.regK fun K2 hK2 => ?_
  refine AOps.read (ARead.fieldAddr tabOk rfl rfl rfl rfl (by decide) rfl) rfl rfl rfl ?_
  refine AOps.read (ARead.load tabOk rfl rfl rfl (by repeat (first | exact Has.head _ | apply Has.tail)) (by first | decide | omega) rfl rfl) rfl rfl rfl ?_
  refine AOps.read (ARead.binOp rfl rfl rfl rfl) rfl rfl rfl ?_
  refine AOps.read (ARead.move rfl rfl) rfl rfl rfl ?_
  refine AOps.keep [1, 6] rfl ?_
  refine AOps.gread rfl rfl rfl rfl rfl (.cons 1 _ _ _ rfl (by first | exact .strip _ _ id | (refine .strip _ _ (fun h => ?_); simp_all; done) | exact .same _) .nil) (fun hG => ARead.fieldAddr tabOk rfl rfl rfl rfl (by decide) rfl) rfl rfl ?_
  refine AOps.gread rfl rfl rfl rfl rfl (.cons 7 _ _ _ rfl (by first | exact .strip _ _ id | (refine .strip _ _ (fun h => ?_); simp_all; done) | exact .same _) .nil) (fun hG => ARead.load tabOk rfl rfl rfl (by repeat (first | exact Has.head _ | apply Has.tail)) (by first | decide | omega) rfl rfl) rfl rfl ?_
  refine AOps.gread rfl rfl rfl rfl rfl (.cons 8 _ _ _ rfl (by first | exact .strip _ _ id | (refine .strip _ _ (fun h => ?_); simp_all; done) | exact .same _) .nil) (fun hG => ARead.binOp rfl rfl rfl rfl) rfl rfl ?_
  first | refine AOps.read (ARead.pickB rfl rfl rfl (by first | exact .strip _ _ id | (refine .strip _ _ (fun h => ?_); simp_all; done) | exact .same _) rfl (by first | exact .strip _ _ id | (refine .strip _ _ (fun h => ?_); simp_all; done) | exact .same _)) rfl rfl rfl ?_ | refine AOps.read (ARead.pick rfl rfl rfl) rfl rfl rfl ?_
  refine AOps.keep [1, 10] rfl ?_
  refine AOps.read (ARead.move rfl rfl) rfl rfl rfl ?_
  refine AOps.gread rfl rfl rfl rfl rfl (.cons 1 _ _ _ rfl (by first | exact .strip _ _ id | (refine .strip _ _ (fun h => ?_); simp_all; done) | exact .same _) .nil) (fun hG => ARead.fieldAddr tabOk rfl rfl rfl rfl (by decide) rfl) rfl rfl ?_
  refine AOps.gread rfl rfl rfl rfl rfl (.cons 12 _ _ _ rfl (by first | exact .strip _ _ id | (refine .strip _ _ (fun h => ?_); simp_all; done) | exact .same _) .nil) (fun hG => ARead.load tabOk rfl rfl rfl (by repeat (first | exact Has.head _ | apply Has.tail)) (by first | decide | omega) rfl rfl) rfl rfl ?_
  refine AOps.gread rfl rfl rfl rfl rfl (.cons 13 _ _ _ rfl (by first | exact .strip _ _ id | (refine .strip _ _ (fun h => ?_); simp_all; done) | exact .same _) .nil) (fun hG => ARead.binOp rfl rfl rfl rfl) rfl rfl ?_
  refine AOps.keep [11, 14] rfl ?_
  first | refine AOps.read (ARead.pickB rfl rfl rfl (by first | exact .strip _ _ id | (refine .strip _ _ (fun h => ?_); simp_all; done) | exact .same _) rfl (by first | exact .strip _ _ id | (refine .strip _ _ (fun h => ?_); simp_all; done) | exact .same _)) rfl rfl rfl ?_ | refine AOps.read (ARead.pick rfl rfl rfl) rfl rfl rfl ?_
  refine AOps.read (ARead.assign rfl rfl) rfl rfl rfl ?_
  refine AOps.nil (hK2 _ _ _ ?_); clear hK2 K2
  refine AWp.keep [2] rfl ?_
  refine AWp.ret ?_
  refine ⟨Or.inr rfl, _, (.tmp _ _ _ _ rfl .nil), ?_⟩
  (try clear hK2 K2); (try clear hK1 K1)
  show packR _ = _
  refine vb_eq ?_; grind [fWri]

theorem rCheckOp_ok (o : O6) : APure Try.prog 136 [o6A o] (vi (checkOpF o)) := by
  refine APure.intro fun N0 => ?_
  refine ACall.of_body tabOk (tab := tab) (fn := Try.f136) Try.func136 (by kernel_rfl) rfl (by simp [Try.f136]) ?_
  show AWp Try.prog 107 _ N0 [(0, o6A o)] [] _
  refine AWp.regK fun K1 hK1 => ?_
  refine AOps.op1 (AOp.box rfl rfl rfl) rfl rfl rfl ?_
  refine AOps.read (ARead.assign rfl rfl) rfl rfl rfl ?_
  refine AOps.nil (hK1 _ _ _ ?_); clear hK1 K1
  refine AWp.keep [1] rfl ?_
  refine AWp.regK fun K2 hK2 => ?_
  refine AOps.read (ARead.fieldAddr tabOk rfl rfl rfl rfl (by decide) rfl) rfl rfl rfl ?_
  refine AOps.read (ARead.load tabOk rfl rfl rfl (by repeat (first | exact Has.head _ | apply Has.tail)) (by first | decide | omega) rfl rfl) rfl rfl rfl ?_
  refine AOps.read (ARead.binOp rfl rfl rfl rfl) rfl rfl rfl ?_
  refine AOps.read (ARead.move rfl rfl) rfl rfl rfl ?_
  refine AOps.keep [1, 8] rfl ?_
  refine AOps.gread rfl rfl rfl rfl rfl (.cons 1 _ _ _ rfl (by first | exact .strip _ _ id | (refine .strip _ _ (fun h => ?_); simp_all; done) | exact .same _) .nil) (fun hG => ARead.fieldAddr tabOk rfl rfl rfl rfl (by decide) rfl) rfl rfl ?_
  refine AOps.gread rfl rfl rfl rfl rfl (.cons 9 _ _ _ rfl (by first | exact .strip _ _ id | (refine .strip _ _ (fun h => ?_); simp_all; done) | exact .same _) .nil) (fun hG => ARead.load tabOk rfl rfl rfl (by repeat (first | exact Has.head _ | apply Has.tail)) (by first | decide | omega) rfl rfl) rfl rfl ?_
  refine AOps.gread rfl rfl rfl rfl rfl (.cons 10 _ _ _ rfl (by first | exact .strip _ _ id | (refine .strip _ _ (fun h => ?_); simp_all; done) | exact .same _) .nil) (fun hG => ARead.binOp rfl rfl rfl rfl) rfl rfl ?_
  first | refine AOps.read (ARead.pickB rfl rfl rfl (by first | exact .strip _ _ id | (refine .strip _ _ (fun h => ?_); simp_all; done) | exact .same _) rfl (by first | exact .strip _ _ id | (refine .strip _ _ (fun h => ?_); simp_all; done) | exact .same _)) rfl rfl rfl ?_ | refine AOps.read (ARead.pick rfl rfl rfl) rfl rfl rfl ?_
  refine AOps.keep [1, 12] rfl ?_
  refine AOps.read (ARead.move rfl rfl) rfl rfl rfl ?_
  refine AOps.gread rfl rfl rfl rfl rfl (.cons 1 _ _ _ rfl (by first | exact .strip _ _ id | (refine .strip _ _ (fun h => ?_); simp_all; done) | exact .same _) .nil) (fun hG => ARead.fieldAddr tabOk rfl rfl rfl rfl (by decide) rfl) rfl rfl ?_
  refine AOps.gread rfl rfl rfl rfl rfl (.cons 14 _ _ _ rfl (by first | exact .strip _ _ id | (refine .strip _ _ (fun h => ?_); simp_all; done) | exact .same _) .nil) (fun hG => ARead.load tabOk rfl rfl rfl (by repeat (first | exact Has.head _ | apply Has.tail)) (by first | decide | omega) rfl rfl) rfl rfl ?_
  refine AOps.gread rfl rfl rfl rfl rfl (.cons 15 _ _ _ rfl (by first | exact .strip _ _ id | (refine .strip _ _ (fun h => ?_); simp_all; done) | exact .same _) .nil) (fun hG => ARead.binOp rfl rfl rfl rfl) rfl rfl ?_
  refine AOps.keep [1, 13, 16] rfl ?_
  first | refine AOps.read (ARead.pickB rfl rfl rfl (by first | exact .strip _ _ id | (refine .strip _ _ (fun h => ?_); simp_all; done) | exact .same _) rfl (by first | exact .strip _ _ id | (refine .strip _ _ (fun h => ?_); simp_all; done) | exact .same _)) rfl rfl rfl ?_ | refine AOps.read (ARead.pick rfl rfl rfl) rfl rfl rfl ?_
  refine AOps.read (ARead.assign rfl rfl) rfl rfl rfl ?_
  refine AOps.nil (hK2 _ _ _ ?_); clear hK2 K2
  refine AWp.keep [1, 3] rfl ?_
  refine AWp.regK fun K3 hK3 => ?_
  refine AOps.read (ARead.fieldAddr tabOk rfl rfl rfl rfl (by decide) rfl) rfl rfl rfl ?_
  refine AOps.read (ARead.load tabOk rfl rfl rfl (by repeat (first | exact Has.head _ | apply Has.tail)) (by first | decide | omega) rfl rfl) rfl rfl rfl ?_
  refine AOps.read (ARead.binOp rfl rfl rfl rfl) rfl rfl rfl ?_
  refine AOps.read (ARead.move rfl rfl) rfl rfl rfl ?_
  refine AOps.keep [1, 3, 21] rfl ?_
  refine AOps.gread rfl rfl rfl rfl rfl (.cons 1 _ _ _ rfl (by first | exact .strip _ _ id | (refine .strip _ _ (fun h => ?_); simp_all; done) | exact .same _) .nil) (fun hG => ARead.fieldAddr tabOk rfl rfl rfl rfl (by decide) rfl) rfl rfl ?_
  refine AOps.gread rfl rfl rfl rfl rfl (.cons 22 _ _ _ rfl (by first | exact .strip _ _ id | (refine .strip _ _ (fun h => ?_); simp_all; done) | exact .same _) .nil) (fun hG => ARead.load tabOk rfl rfl rfl (by repeat (first | exact Has.head _ | apply Has.tail)) (by first | decide | omega) rfl rfl) rfl rfl ?_
  refine AOps.gread rfl rfl rfl rfl rfl (.cons 23 _ _ _ rfl (by first | exact .strip _ _ id | (refine .strip _ _ (fun h => ?_); simp_all; done) | exact .same _) .nil) (fun hG => ARead.binOp rfl rfl rfl rfl) rfl rfl ?_
  first | refine AOps.read (ARead.pickB rfl rfl rfl (by first | exact .strip _ _ id | (refine .strip _ _ (fun h => ?_); simp_all; done) | exact .same _) rfl (by first | exact .strip _ _ id | (refine .strip _ _ (fun h => ?_); simp_all; done) | exact .same _)) rfl rfl rfl ?_ | refine AOps.read (ARead.pick rfl rfl rfl) rfl rfl rfl ?_
  refine AOps.keep [1, 3, 25] rfl ?_
  refine AOps.read (ARead.assign rfl rfl) rfl rfl rfl ?_
  refine AOps.nil (hK3 _ _ _ ?_); clear hK3 K3
  refine AWp.keep [1, 3, 4] rfl ?_
  refine AWp.seqK fun K4 hK4 => ?_
  refine AWp.regK fun K5 hK5 => ?_
  refine AOps.read (ARead.move rfl rfl) rfl rfl rfl ?_
  refine AOps.read (ARead.unOp rfl rfl rfl) rfl rfl rfl ?_
  refine AOps.read (ARead.move rfl rfl) rfl rfl rfl ?_
  refine AOps.gread rfl rfl rfl rfl rfl (.cons 4 _ _ _ rfl (by first | exact .strip _ _ id | (refine .strip _ _ (fun h => ?_); simp_all; done) | exact .same _) .nil) (fun hG => ARead.move rfl rfl) rfl rfl ?_
  refine AOps.keep [1, 3, 4, 28, 29] rfl ?_
  refine AOps.gread rfl rfl rfl rfl rfl (.cons 29 _ _ _ rfl (by first | exact .strip _ _ id | (refine .strip _ _ (fun h => ?_); simp_all; done) | exact .same _) .nil) (fun hG => ARead.unOp rfl rfl rfl) rfl rfl ?_
  first | refine AOps.read (ARead.pickB rfl rfl rfl (by first | exact .strip _ _ id | (refine .strip _ _ (fun h => ?_); simp_all; done) | exact .same _) rfl (by first | exact .strip _ _ id | (refine .strip _ _ (fun h => ?_); simp_all; done) | exact .same _)) rfl rfl rfl ?_ | refine AOps.read (ARead.pick rfl rfl rfl) rfl rfl rfl ?_
  refine AOps.read (ARead.move rfl rfl) rfl rfl rfl ?_
  refine AOps.gread rfl rfl rfl rfl rfl (.cons 3 _ _ _ rfl (by first | exact .strip _ _ id | (refine .strip _ _ (fun h => ?_); simp_all; done) | exact .same _) .nil) (fun hG => ARead.move rfl rfl) rfl rfl ?_
  refine AOps.keep [1, 3, 4, 32, 33] rfl ?_
  refine AOps.gread rfl rfl rfl rfl rfl (.cons 33 _ _ _ rfl (by first | exact .strip _ _ id | (refine .strip _ _ (fun h => ?_); simp_all; done) | exact .same _) .nil) (fun hG => ARead.move rfl rfl) rfl rfl ?_
  refine AOps.gread rfl rfl rfl rfl rfl (.cons 1 _ _ _ rfl (by first | exact .strip _ _ id | (refine .strip _ _ (fun h => ?_); simp_all; done) | exact .same _) .nil) (fun hG => ARead.fieldAddr tabOk rfl rfl rfl rfl (by decide) rfl) rfl rfl ?_
  refine AOps.gread rfl rfl rfl rfl rfl (.cons 35 _ _ _ rfl (by first | exact .strip _ _ id | (refine .strip _ _ (fun h => ?_); simp_all; done) | exact .same _) .nil) (fun hG => ARead.load tabOk rfl rfl rfl (by repeat (first | exact Has.head _ | apply Has.tail)) (by first | decide | omega) rfl rfl) rfl rfl ?_
  refine AOps.gread rfl rfl rfl rfl rfl (.cons 36 _ _ _ rfl (by first | exact .strip _ _ id | (refine .strip _ _ (fun h => ?_); simp_all; done) | exact .same _) .nil) (fun hG => ARead.binOp rfl rfl rfl rfl) rfl rfl ?_
  refine AOps.keep [1, 3, 4, 32, 34, 37] rfl ?_
  refine AOps.gread rfl rfl rfl rfl rfl (.cons 37 _ _ _ rfl (by first | exact .strip _ _ id | (refine .strip _ _ (fun h => ?_); simp_all; done) | exact .same _) .nil) (fun hG => ARead.move rfl rfl) rfl rfl ?_
  refine AOps.gread rfl rfl rfl rfl rfl (.cons 1 _ _ _ rfl (by first | exact .strip _ _ id | (refine .strip _ _ (fun h => ?_); simp_all; done) | exact .same _) .nil) (fun hG => ARead.fieldAddr tabOk rfl rfl rfl rfl (by decide) rfl) rfl rfl ?_
  refine AOps.gread rfl rfl rfl rfl rfl (.cons 39 _ _ _ rfl (by first | exact .strip _ _ id | (refine .strip _ _ (fun h => ?_); simp_all; done) | exact .same _) .nil) (fun hG => ARead.load tabOk rfl rfl rfl (by repeat (first | exact Has.head _ | apply Has.tail)) (by first | decide | omega) rfl rfl) rfl rfl ?_
  refine AOps.gread rfl rfl rfl rfl rfl (.cons 40 _ _ _ rfl (by first | exact .strip _ _ id | (refine .strip _ _ (fun h => ?_); simp_all; done) | exact .same _) .nil) (fun hG => ARead.binOp rfl rfl rfl rfl) rfl rfl ?_
  refine AOps.keep [1, 3, 4, 32, 34, 38, 41] rfl ?_
  first | refine AOps.gread rfl rfl rfl rfl rfl (.cons 38 _ _ _ rfl (by first | exact .strip _ _ id | (refine .strip _ _ (fun h => ?_); simp_all; done) | exact .same _) (.cons 41 _ _ _ rfl (by first | exact .strip _ _ id | (refine .strip _ _ (fun h => ?_); simp_all; done) | exact .same _) .nil)) (fun hG => ARead.pickB rfl rfl rfl (by first | exact .strip _ _ id | (refine .strip _ _ (fun h => ?_); simp_all; done) | exact .same _) rfl (by first | exact .strip _ _ id | (refine .strip _ _ (fun h => ?_); simp_all; done) | exact .same _)) rfl rfl ?_ | refine AOps.gread rfl rfl rfl rfl rfl (.cons 38 _ _ _ rfl (by first | exact .strip _ _ id | (refine .strip _ _ (fun h => ?_); simp_all; done) | exact .same _) (.cons 41 _ _ _ rfl (by first | exact .strip _ _ id | (refine .strip _ _ (fun h => ?_); simp_all; done) | exact .same _) .nil)) (fun hG => ARead.pick rfl rfl rfl) rfl rfl ?_
  first | refine AOps.gread rfl rfl rfl rfl rfl (.cons 34 _ _ _ rfl (by first | exact .strip _ _ id | (refine .strip _ _ (fun h => ?_); simp_all; done) | exact .same _) (.cons 42 _ _ _ rfl (by first | exact .strip _ _ id | (refine .strip _ _ (fun h => ?_); simp_all; done) | exact .same _) .nil)) (fun hG => ARead.pickB rfl rfl rfl (by first | exact .strip _ _ id | (refine .strip _ _ (fun h => ?_); simp_all; done) | exact .same _) rfl (by first | exact .strip _ _ id | (refine .strip _ _ (fun h => ?_); simp_all; done) | exact .same _)) rfl rfl ?_ | refine AOps.gread rfl rfl rfl rfl rfl (.cons 34 _ _ _ rfl (by first | exact .strip _ _ id | (refine .strip _ _ (fun h => ?_); simp_all; done) | exact .same _) (.cons 42 _ _ _ rfl (by first | exact .strip _ _ id | (refine .strip _ _ (fun h => ?_); simp_all; done) | exact .same _) .nil)) (fun hG => ARead.pick rfl rfl rfl) rfl rfl ?_
  first | refine AOps.read (ARead.pickB rfl rfl rfl (by first | exact .strip _ _ id | (refine .strip _ _ (fun h => ?_); simp_all; done) | exact .same _) rfl (by first | exact .strip _ _ id | (refine .strip _ _ (fun h => ?_); simp_all; done) | exact .same _)) rfl rfl rfl ?_ | refine AOps.read (ARead.pick rfl rfl rfl) rfl rfl rfl ?_
  refine AOps.read (ARead.move rfl rfl) rfl rfl rfl ?_
  refine AOps.keep [1, 3, 4, 45] rfl ?_
  refine AOps.gread rfl rfl rfl rfl rfl (.cons 4 _ _ _ rfl (by first | exact .strip _ _ id | (refine .strip _ _ (fun h => ?_); simp_all; done) | exact .same _) .nil) (fun hG => ARead.move rfl rfl) rfl rfl ?_
  refine AOps.gread rfl rfl rfl rfl rfl (.cons 46 _ _ _ rfl (by first | exact .strip _ _ id | (refine .strip _ _ (fun h => ?_); simp_all; done) | exact .same _) .nil) (fun hG => ARead.move rfl rfl) rfl rfl ?_
  refine AOps.gread rfl rfl rfl rfl rfl (.cons 1 _ _ _ rfl (by first | exact .strip _ _ id | (refine .strip _ _ (fun h => ?_); simp_all; done) | exact .same _) .nil) (fun hG => ARead.fieldAddr tabOk rfl rfl rfl rfl (by decide) rfl) rfl rfl ?_
  refine AOps.gread rfl rfl rfl rfl rfl (.cons 48 _ _ _ rfl (by first | exact .strip _ _ id | (refine .strip _ _ (fun h => ?_); simp_all; done) | exact .same _) .nil) (fun hG => ARead.load tabOk rfl rfl rfl (by repeat (first | exact Has.head _ | apply Has.tail)) (by first | decide | omega) rfl rfl) rfl rfl ?_
  refine AOps.keep [1, 3, 4, 45, 47, 49] rfl ?_
  refine AOps.gread rfl rfl rfl rfl rfl (.cons 49 _ _ _ rfl (by first | exact .strip _ _ id | (refine .strip _ _ (fun h => ?_); simp_all; done) | exact .same _) .nil) (fun hG => ARead.binOp rfl rfl rfl rfl) rfl rfl ?_
  first | refine AOps.gread rfl rfl rfl rfl rfl (.cons 47 _ _ _ rfl (by first | exact .strip _ _ id | (refine .strip _ _ (fun h => ?_); simp_all; done) | exact .same _) (.cons 50 _ _ _ rfl (by first | exact .strip _ _ id | (refine .strip _ _ (fun h => ?_); simp_all; done) | exact .same _) .nil)) (fun hG => ARead.pickB rfl rfl rfl (by first | exact .strip _ _ id | (refine .strip _ _ (fun h => ?_); simp_all; done) | exact .same _) rfl (by first | exact .strip _ _ id | (refine .strip _ _ (fun h => ?_); simp_all; done) | exact .same _)) rfl rfl ?_ | refine AOps.gread rfl rfl rfl rfl rfl (.cons 47 _ _ _ rfl (by first | exact .strip _ _ id | (refine .strip _ _ (fun h => ?_); simp_all; done) | exact .same _) (.cons 50 _ _ _ rfl (by first | exact .strip _ _ id | (refine .strip _ _ (fun h => ?_); simp_all; done) | exact .same _) .nil)) (fun hG => ARead.pick rfl rfl rfl) rfl rfl ?_
  first | refine AOps.read (ARead.pickB rfl rfl rfl (by first | exact .strip _ _ id | (refine .strip _ _ (fun h => ?_); simp_all; done) | exact .same _) rfl (by first | exact .strip _ _ id | (refine .strip _ _ (fun h => ?_); simp_all; done) | exact .same _)) rfl rfl rfl ?_ | refine AOps.read (ARead.pick rfl rfl rfl) rfl rfl rfl ?_
  refine AOps.read (ARead.move rfl rfl) rfl rfl rfl ?_
  refine AOps.keep [1, 3, 4, 53] rfl ?_
  refine AOps.gread rfl rfl rfl rfl rfl (.cons 1 _ _ _ rfl (by first | exact .strip _ _ id | (refine .strip _ _ (fun h => ?_); simp_all; done) | exact .same _) .nil) (fun hG => ARead.fieldAddr tabOk rfl rfl rfl rfl (by decide) rfl) rfl rfl ?_
  refine AOps.gread rfl rfl rfl rfl rfl (.cons 54 _ _ _ rfl (by first | exact .strip _ _ id | (refine .strip _ _ (fun h => ?_); simp_all; done) | exact .same _) .nil) (fun hG => ARead.load tabOk rfl rfl rfl (by repeat (first | exact Has.head _ | apply Has.tail)) (by first | decide | omega) rfl rfl) rfl rfl ?_
  refine AOps.gread rfl rfl rfl rfl rfl (.cons 55 _ _ _ rfl (by first | exact .strip _ _ id | (refine .strip _ _ (fun h => ?_); simp_all; done) | exact .same _) .nil) (fun hG => ARead.binOp rfl rfl rfl rfl) rfl rfl ?_
  refine AOps.gread rfl rfl rfl rfl rfl (.cons 56 _ _ _ rfl (by first | exact .strip _ _ id | (refine .strip _ _ (fun h => ?_); simp_all; done) | exact .same _) .nil) (fun hG => ARead.move rfl rfl) rfl rfl ?_
  refine AOps.keep [1, 3, 4, 53, 57] rfl ?_
  refine AOps.gread rfl rfl rfl rfl rfl (.cons 1 _ _ _ rfl (by first | exact .strip _ _ id | (refine .strip _ _ (fun h => ?_); simp_all; done) | exact .same _) .nil) (fun hG => ARead.fieldAddr tabOk rfl rfl rfl rfl (by decide) rfl) rfl rfl ?_
  refine AOps.gread rfl rfl rfl rfl rfl (.cons 58 _ _ _ rfl (by first | exact .strip _ _ id | (refine .strip _ _ (fun h => ?_); simp_all; done) | exact .same _) .nil) (fun hG => ARead.load tabOk rfl rfl rfl (by repeat (first | exact Has.head _ | apply Has.tail)) (by first | decide | omega) rfl rfl) rfl rfl ?_
  refine AOps.gread rfl rfl rfl rfl rfl (.cons 59 _ _ _ rfl (by first | exact .strip _ _ id | (refine .strip _ _ (fun h => ?_); simp_all; done) | exact .same _) .nil) (fun hG => ARead.binOp rfl rfl rfl rfl) rfl rfl ?_
  first | refine AOps.gread rfl rfl rfl rfl rfl (.cons 57 _ _ _ rfl (by first | exact .strip _ _ id | (refine .strip _ _ (fun h => ?_); simp_all; done) | exact .same _) (.cons 60 _ _ _ rfl (by first | exact .strip _ _ id | (refine .strip _ _ (fun h => ?_); simp_all; done) | exact .same _) .nil)) (fun hG => ARead.pickB rfl rfl rfl (by first | exact .strip _ _ id | (refine .strip _ _ (fun h => ?_); simp_all; done) | exact .same _) rfl (by first | exact .strip _ _ id | (refine .strip _ _ (fun h => ?_); simp_all; done) | exact .same _)) rfl rfl ?_ | refine AOps.gread rfl rfl rfl rfl rfl (.cons 57 _ _ _ rfl (by first | exact .strip _ _ id | (refine .strip _ _ (fun h => ?_); simp_all; done) | exact .same _) (.cons 60 _ _ _ rfl (by first | exact .strip _ _ id | (refine .strip _ _ (fun h => ?_); simp_all; done) | exact .same _) .nil)) (fun hG => ARead.pick rfl rfl rfl) rfl rfl ?_
  refine AOps.keep [1, 3, 4, 53, 61] rfl ?_
  first | refine AOps.read (ARead.pickB rfl rfl rfl (by first | exact .strip _ _ id | (refine .strip _ _ (fun h => ?_); simp_all; done) | exact .same _) rfl (by first | exact .strip _ _ id | (refine .strip _ _ (fun h => ?_); simp_all; done) | exact .same _)) rfl rfl rfl ?_ | refine AOps.read (ARead.pick rfl rfl rfl) rfl rfl rfl ?_
  refine AOps.read (ARead.move rfl rfl) rfl rfl rfl ?_
  refine AOps.gread rfl rfl rfl rfl rfl (.cons 1 _ _ _ rfl (by first | exact .strip _ _ id | (refine .strip _ _ (fun h => ?_); simp_all; done) | exact .same _) .nil) (fun hG => ARead.fieldAddr tabOk rfl rfl rfl rfl (by decide) rfl) rfl rfl ?_
  refine AOps.gread rfl rfl rfl rfl rfl (.cons 64 _ _ _ rfl (by first | exact .strip _ _ id | (refine .strip _ _ (fun h => ?_); simp_all; done) | exact .same _) .nil) (fun hG => ARead.load tabOk rfl rfl rfl (by repeat (first | exact Has.head _ | apply Has.tail)) (by first | decide | omega) rfl rfl) rfl rfl ?_
  refine AOps.keep [1, 3, 4, 63, 65] rfl ?_
  refine AOps.gread rfl rfl rfl rfl rfl (.cons 65 _ _ _ rfl (by first | exact .strip _ _ id | (refine .strip _ _ (fun h => ?_); simp_all; done) | exact .same _) .nil) (fun hG => ARead.binOp rfl rfl rfl rfl) rfl rfl ?_
  refine AOps.gread rfl rfl rfl rfl rfl (.cons 66 _ _ _ rfl (by first | exact .strip _ _ id | (refine .strip _ _ (fun h => ?_); simp_all; done) | exact .same _) .nil) (fun hG => ARead.move rfl rfl) rfl rfl ?_
  refine AOps.gread rfl rfl rfl rfl rfl (.cons 1 _ _ _ rfl (by first | exact .strip _ _ id | (refine .strip _ _ (fun h => ?_); simp_all; done) | exact .same _) .nil) (fun hG => ARead.fieldAddr tabOk rfl rfl rfl rfl (by decide) rfl) rfl rfl ?_
  refine AOps.gread rfl rfl rfl rfl rfl (.cons 68 _ _ _ rfl (by first | exact .strip _ _ id | (refine .strip _ _ (fun h => ?_); simp_all; done) | exact .same _) .nil) (fun hG => ARead.load tabOk rfl rfl rfl (by repeat (first | exact Has.head _ | apply Has.tail)) (by first | decide | omega) rfl rfl) rfl rfl ?_
  refine AOps.keep [1, 3, 4, 63, 67, 69] rfl ?_
  refine AOps.gread rfl rfl rfl rfl rfl (.cons 69 _ _ _ rfl (by first | exact .strip _ _ id | (refine .strip _ _ (fun h => ?_); simp_all; done) | exact .same _) .nil) (fun hG => ARead.binOp rfl rfl rfl rfl) rfl rfl ?_
  first | refine AOps.gread rfl rfl rfl rfl rfl (.cons 67 _ _ _ rfl (by first | exact .strip _ _ id | (refine .strip _ _ (fun h => ?_); simp_all; done) | exact .same _) (.cons 70 _ _ _ rfl (by first | exact .strip _ _ id | (refine .strip _ _ (fun h => ?_); simp_all; done) | exact .same _) .nil)) (fun hG => ARead.pickB rfl rfl rfl (by first | exact .strip _ _ id | (refine .strip _ _ (fun h => ?_); simp_all; done) | exact .same _) rfl (by first | exact .strip _ _ id | (refine .strip _ _ (fun h => ?_); simp_all; done) | exact .same _)) rfl rfl ?_ | refine AOps.gread rfl rfl rfl rfl rfl (.cons 67 _ _ _ rfl (by first | exact .strip _ _ id | (refine .strip _ _ (fun h => ?_); simp_all; done) | exact .same _) (.cons 70 _ _ _ rfl (by first | exact .strip _ _ id | (refine .strip _ _ (fun h => ?_); simp_all; done) | exact .same _) .nil)) (fun hG => ARead.pick rfl rfl rfl) rfl rfl ?_
  first | refine AOps.read (ARead.pickB rfl rfl rfl (by first | exact .strip _ _ id | (refine .strip _ _ (fun h => ?_); simp_all; done) | exact .same _) rfl (by first | exact .strip _ _ id | (refine .strip _ _ (fun h => ?_); simp_all; done) | exact .same _)) rfl rfl rfl ?_ | refine AOps.read (ARead.pick rfl rfl rfl) rfl rfl rfl ?_
  refine AOps.nil (hK5 _ _ _ ?_); clear hK5 K5
  refine AWp.keep [1, 3, 4, 72] rfl ?_
  refine AWp.cond rfl (fun hb6 => ?_) (fun hb6 => ?_)
  · have hc6 := hb6; clear hb6; try simp only [decide_eq_true_eq, decide_eq_false_iff_not, Bool.not_eq_true, Bool.not_eq_false, Int.not_lt, Int.not_le, Bool.not_eq_true', Bool.not_eq_false'] at hc6
    refine AWp.regK fun K7 hK7 => ?_
    refine AOps.read (ARead.assign rfl rfl) rfl rfl rfl ?_
    refine AOps.nil (hK7 _ _ _ ?_); clear hK7 K7
    refine AWp.keep [2] rfl ?_
    refine AWp.ret ?_
    refine ⟨Or.inr rfl, _, (.tmp _ _ _ _ rfl .nil), ?_⟩
    (try clear hK7 K7); (try clear hK6 K6); (try clear hK5 K5); (try clear hK4 K4); (try clear hK3 K3); (try clear hK2 K2); (try clear hK1 K1)
    show packR _ = _
    rcases (show o.kind = 1 ∨ o.kind = 2 ∨ o.kind = 3 ∨ o.kind = 4 ∨ o.kind = 5 ∨ (o.kind ≠ 1 ∧ o.kind ≠ 2 ∧ o.kind ≠ 3 ∧ o.kind ≠ 4 ∧ o.kind ≠ 5 ∧ ¬ (1 ≤ o.kind ∧ o.kind ≤ 5)) from by omega) with h | h | h | h | h | ⟨h1, h2, h3, h4, h5, h6⟩ <;> simp_all [packR, checkOpF, fIs, fKey, fVal, fRan, fMost] <;> grind
  · have hc6 := hb6; clear hb6; try simp only [decide_eq_true_eq, decide_eq_false_iff_not, Bool.not_eq_true, Bool.not_eq_false, Int.not_lt, Int.not_le, Bool.not_eq_true', Bool.not_eq_false'] at hc6
    refine AWp.skip (hK4 _ _ _ ?_); try clear hK4 K4
    refine AWp.keep [1, 3, 4] rfl ?_
    refine AWp.seqK fun K8 hK8 => ?_
    refine AWp.regK fun K9 hK9 => ?_
    refine AOps.read (ARead.move rfl rfl) rfl rfl rfl ?_
    refine AOps.read (ARead.move rfl rfl) rfl rfl rfl ?_
    refine AOps.gread rfl rfl rfl rfl rfl (.cons 1 _ _ _ rfl (by first | exact .strip _ _ id | (refine .strip _ _ (fun h => ?_); simp_all; done) | exact .same _) .nil) (fun hG => ARead.fieldAddr tabOk rfl rfl rfl rfl (by decide) rfl) rfl rfl ?_
    refine AOps.gread rfl rfl rfl rfl rfl (.cons 75 _ _ _ rfl (by first | exact .strip _ _ id | (refine .strip _ _ (fun h => ?_); simp_all; done) | exact .same _) .nil) (fun hG => ARead.load tabOk rfl rfl rfl (by repeat (first | exact Has.head _ | apply Has.tail)) (by first | decide | omega) rfl rfl) rfl rfl ?_
    refine AOps.keep [1, 4, 74, 76] rfl ?_
    refine AOps.gpcall rfl rfl rfl rfl rfl (.cons 76 _ _ _ rfl (by first | exact .strip _ _ id | (refine .strip _ _ (fun h => ?_); simp_all; done) | exact .same _) .nil) rfl (by first | exact .inr ⟨rfl, rfl, rfl⟩ | exact .inl rfl) rfl (fun hG => rCheckKey_ok _) rfl rfl (fun N hN => ?_)
    refine AOps.gread rfl rfl rfl rfl rfl (.cons 77 _ _ _ rfl (by first | exact .strip _ _ id | (refine .strip _ _ (fun h => ?_); simp_all; done) | exact .same _) .nil) (fun hG => ARead.binOp rfl rfl rfl rfl) rfl rfl ?_
    first | refine AOps.read (ARead.pickB rfl rfl rfl (by first | exact .strip _ _ id | (refine .strip _ _ (fun h => ?_); simp_all; done) | exact .same _) rfl (by first | exact .strip _ _ id | (refine .strip _ _ (fun h => ?_); simp_all; done) | exact .same _)) rfl rfl rfl ?_ | refine AOps.read (ARead.pick rfl rfl rfl) rfl rfl rfl ?_
    refine AOps.nil (hK9 _ _ _ ?_); clear hK9 K9
    refine AWp.keep [1, 4, 79] rfl ?_
    refine AWp.cond rfl (fun hb10 => ?_) (fun hb10 => ?_)
    · have hc10 := hb10; clear hb10; try simp only [decide_eq_true_eq, decide_eq_false_iff_not, Bool.not_eq_true, Bool.not_eq_false, Int.not_lt, Int.not_le, Bool.not_eq_true', Bool.not_eq_false'] at hc10
      refine AWp.regK fun K11 hK11 => ?_
      refine AOps.read (ARead.assign rfl rfl) rfl rfl rfl ?_
      refine AOps.nil (hK11 _ _ _ ?_); clear hK11 K11
      refine AWp.keep [2] rfl ?_
      refine AWp.ret ?_
      refine ⟨Or.inr rfl, _, (.tmp _ _ _ _ rfl .nil), ?_⟩
      (try clear hK11 K11); (try clear hK10 K10); (try clear hK9 K9); (try clear hK8 K8); (try clear hK7 K7); (try clear hK6 K6); (try clear hK5 K5); (try clear hK4 K4); (try clear hK3 K3); (try clear hK2 K2); (try clear hK1 K1)
      show packR _ = _
      rcases (show o.kind = 1 ∨ o.kind = 2 ∨ o.kind = 3 ∨ o.kind = 4 ∨ o.kind = 5 ∨ (o.kind ≠ 1 ∧ o.kind ≠ 2 ∧ o.kind ≠ 3 ∧ o.kind ≠ 4 ∧ o.kind ≠ 5 ∧ ¬ (1 ≤ o.kind ∧ o.kind ≤ 5)) from by omega) with h | h | h | h | h | ⟨h1, h2, h3, h4, h5, h6⟩ <;> simp_all [packR, checkOpF, fIs, fKey, fVal, fRan, fMost] <;> grind
    · have hc10 := hb10; clear hb10; try simp only [decide_eq_true_eq, decide_eq_false_iff_not, Bool.not_eq_true, Bool.not_eq_false, Int.not_lt, Int.not_le, Bool.not_eq_true', Bool.not_eq_false'] at hc10
      refine AWp.skip (hK8 _ _ _ ?_); try clear hK8 K8
      refine AWp.keep [1, 4] rfl ?_
      refine AWp.seqK fun K12 hK12 => ?_
      refine AWp.regK fun K13 hK13 => ?_
      refine AOps.read (ARead.fieldAddr tabOk rfl rfl rfl rfl (by decide) rfl) rfl rfl rfl ?_
      refine AOps.read (ARead.load tabOk rfl rfl rfl (by repeat (first | exact Has.head _ | apply Has.tail)) (by first | decide | omega) rfl rfl) rfl rfl rfl ?_
      refine AOps.read (ARead.lenStr tabOk rfl rfl rfl rfl) rfl rfl rfl ?_
      refine AOps.read (ARead.binOp rfl rfl rfl rfl) rfl rfl rfl ?_
      refine AOps.nil (hK13 _ _ _ ?_); clear hK13 K13
      refine AWp.keep [1, 4, 83] rfl ?_
      refine AWp.cond rfl (fun hb14 => ?_) (fun hb14 => ?_)
      · have hc14 := hb14; clear hb14; try simp only [decide_eq_true_eq, decide_eq_false_iff_not, Bool.not_eq_true, Bool.not_eq_false, Int.not_lt, Int.not_le, Bool.not_eq_true', Bool.not_eq_false'] at hc14
        refine AWp.regK fun K15 hK15 => ?_
        refine AOps.read (ARead.assign rfl rfl) rfl rfl rfl ?_
        refine AOps.nil (hK15 _ _ _ ?_); clear hK15 K15
        refine AWp.keep [2] rfl ?_
        refine AWp.ret ?_
        refine ⟨Or.inr rfl, _, (.tmp _ _ _ _ rfl .nil), ?_⟩
        (try clear hK15 K15); (try clear hK14 K14); (try clear hK13 K13); (try clear hK12 K12); (try clear hK11 K11); (try clear hK10 K10); (try clear hK9 K9); (try clear hK8 K8); (try clear hK7 K7); (try clear hK6 K6); (try clear hK5 K5); (try clear hK4 K4); (try clear hK3 K3); (try clear hK2 K2); (try clear hK1 K1)
        show packR _ = _
        rcases (show o.kind = 1 ∨ o.kind = 2 ∨ o.kind = 3 ∨ o.kind = 4 ∨ o.kind = 5 ∨ (o.kind ≠ 1 ∧ o.kind ≠ 2 ∧ o.kind ≠ 3 ∧ o.kind ≠ 4 ∧ o.kind ≠ 5 ∧ ¬ (1 ≤ o.kind ∧ o.kind ≤ 5)) from by omega) with h | h | h | h | h | ⟨h1, h2, h3, h4, h5, h6⟩ <;> simp_all [packR, checkOpF, fIs, fKey, fVal, fRan, fMost] <;> grind
      · have hc14 := hb14; clear hb14; try simp only [decide_eq_true_eq, decide_eq_false_iff_not, Bool.not_eq_true, Bool.not_eq_false, Int.not_lt, Int.not_le, Bool.not_eq_true', Bool.not_eq_false'] at hc14
        refine AWp.skip (hK12 _ _ _ ?_); try clear hK12 K12
        refine AWp.keep [1, 4] rfl ?_
        refine AWp.seqK fun K16 hK16 => ?_
        refine AWp.regK fun K17 hK17 => ?_
        refine AOps.read (ARead.move rfl rfl) rfl rfl rfl ?_
        refine AOps.read (ARead.move rfl rfl) rfl rfl rfl ?_
        refine AOps.gread rfl rfl rfl rfl rfl (.cons 1 _ _ _ rfl (by first | exact .strip _ _ id | (refine .strip _ _ (fun h => ?_); simp_all; done) | exact .same _) .nil) (fun hG => ARead.fieldAddr tabOk rfl rfl rfl rfl (by decide) rfl) rfl rfl ?_
        refine AOps.gread rfl rfl rfl rfl rfl (.cons 86 _ _ _ rfl (by first | exact .strip _ _ id | (refine .strip _ _ (fun h => ?_); simp_all; done) | exact .same _) .nil) (fun hG => ARead.load tabOk rfl rfl rfl (by repeat (first | exact Has.head _ | apply Has.tail)) (by first | decide | omega) rfl rfl) rfl rfl ?_
        refine AOps.keep [1, 85, 87] rfl ?_
        refine AOps.gread rfl rfl rfl rfl rfl (.cons 1 _ _ _ rfl (by first | exact .strip _ _ id | (refine .strip _ _ (fun h => ?_); simp_all; done) | exact .same _) .nil) (fun hG => ARead.fieldAddr tabOk rfl rfl rfl rfl (by decide) rfl) rfl rfl ?_
        refine AOps.gread rfl rfl rfl rfl rfl (.cons 88 _ _ _ rfl (by first | exact .strip _ _ id | (refine .strip _ _ (fun h => ?_); simp_all; done) | exact .same _) .nil) (fun hG => ARead.load tabOk rfl rfl rfl (by repeat (first | exact Has.head _ | apply Has.tail)) (by first | decide | omega) rfl rfl) rfl rfl ?_
        refine AOps.gread rfl rfl rfl rfl rfl (.cons 87 _ _ _ rfl (by first | exact .strip _ _ id | (refine .strip _ _ (fun h => ?_); simp_all; done) | exact .same _) (.cons 89 _ _ _ rfl (by first | exact .strip _ _ id | (refine .strip _ _ (fun h => ?_); simp_all; done) | exact .same _) .nil)) (fun hG => ARead.build tabOk rfl rfl rfl rfl rfl rfl rfl) rfl rfl ?_
        refine AOps.gpcall rfl rfl rfl rfl rfl (.cons 90 _ _ _ rfl (by first | exact .strip _ _ id | (refine .strip _ _ (fun h => ?_); simp_all; done) | exact .same _) .nil) rfl (by first | exact .inr ⟨rfl, rfl, rfl⟩ | exact .inl rfl) rfl (fun hG => rSpanCheck_ok _ _) rfl rfl (fun N hN => ?_)
        refine AOps.keep [1, 85, 91] rfl ?_
        refine AOps.gread rfl rfl rfl rfl rfl (.cons 91 _ _ _ rfl (by first | exact .strip _ _ id | (refine .strip _ _ (fun h => ?_); simp_all; done) | exact .same _) .nil) (fun hG => ARead.binOp rfl rfl rfl rfl) rfl rfl ?_
        first | refine AOps.read (ARead.pickB rfl rfl rfl (by first | exact .strip _ _ id | (refine .strip _ _ (fun h => ?_); simp_all; done) | exact .same _) rfl (by first | exact .strip _ _ id | (refine .strip _ _ (fun h => ?_); simp_all; done) | exact .same _)) rfl rfl rfl ?_ | refine AOps.read (ARead.pick rfl rfl rfl) rfl rfl rfl ?_
        refine AOps.nil (hK17 _ _ _ ?_); clear hK17 K17
        refine AWp.keep [1, 93] rfl ?_
        refine AWp.cond rfl (fun hb18 => ?_) (fun hb18 => ?_)
        · have hc18 := hb18; clear hb18; try simp only [decide_eq_true_eq, decide_eq_false_iff_not, Bool.not_eq_true, Bool.not_eq_false, Int.not_lt, Int.not_le, Bool.not_eq_true', Bool.not_eq_false'] at hc18
          refine AWp.regK fun K19 hK19 => ?_
          refine AOps.read (ARead.assign rfl rfl) rfl rfl rfl ?_
          refine AOps.nil (hK19 _ _ _ ?_); clear hK19 K19
          refine AWp.keep [2] rfl ?_
          refine AWp.ret ?_
          refine ⟨Or.inr rfl, _, (.tmp _ _ _ _ rfl .nil), ?_⟩
          (try clear hK19 K19); (try clear hK18 K18); (try clear hK17 K17); (try clear hK16 K16); (try clear hK15 K15); (try clear hK14 K14); (try clear hK13 K13); (try clear hK12 K12); (try clear hK11 K11); (try clear hK10 K10); (try clear hK9 K9); (try clear hK8 K8); (try clear hK7 K7); (try clear hK6 K6); (try clear hK5 K5); (try clear hK4 K4); (try clear hK3 K3); (try clear hK2 K2); (try clear hK1 K1)
          show packR _ = _
          rcases (show o.kind = 1 ∨ o.kind = 2 ∨ o.kind = 3 ∨ o.kind = 4 ∨ o.kind = 5 ∨ (o.kind ≠ 1 ∧ o.kind ≠ 2 ∧ o.kind ≠ 3 ∧ o.kind ≠ 4 ∧ o.kind ≠ 5 ∧ ¬ (1 ≤ o.kind ∧ o.kind ≤ 5)) from by omega) with h | h | h | h | h | ⟨h1, h2, h3, h4, h5, h6⟩ <;> simp_all [packR, checkOpF, fIs, fKey, fVal, fRan, fMost] <;> grind
        · have hc18 := hb18; clear hb18; try simp only [decide_eq_true_eq, decide_eq_false_iff_not, Bool.not_eq_true, Bool.not_eq_false, Int.not_lt, Int.not_le, Bool.not_eq_true', Bool.not_eq_false'] at hc18
          refine AWp.skip (hK16 _ _ _ ?_); try clear hK16 K16
          refine AWp.keep [1] rfl ?_
          refine AWp.seqK fun K20 hK20 => ?_
          refine AWp.regK fun K21 hK21 => ?_
          refine AOps.read (ARead.fieldAddr tabOk rfl rfl rfl rfl (by decide) rfl) rfl rfl rfl ?_
          refine AOps.read (ARead.load tabOk rfl rfl rfl (by repeat (first | exact Has.head _ | apply Has.tail)) (by first | decide | omega) rfl rfl) rfl rfl rfl ?_
          refine AOps.read (ARead.binOp rfl rfl rfl rfl) rfl rfl rfl ?_
          refine AOps.read (ARead.move rfl rfl) rfl rfl rfl ?_
          refine AOps.keep [1, 97] rfl ?_
          refine AOps.gread rfl rfl rfl rfl rfl (.cons 1 _ _ _ rfl (by first | exact .strip _ _ id | (refine .strip _ _ (fun h => ?_); simp_all; done) | exact .same _) .nil) (fun hG => ARead.fieldAddr tabOk rfl rfl rfl rfl (by decide) rfl) rfl rfl ?_
          refine AOps.gread rfl rfl rfl rfl rfl (.cons 98 _ _ _ rfl (by first | exact .strip _ _ id | (refine .strip _ _ (fun h => ?_); simp_all; done) | exact .same _) .nil) (fun hG => ARead.load tabOk rfl rfl rfl (by repeat (first | exact Has.head _ | apply Has.tail)) (by first | decide | omega) rfl rfl) rfl rfl ?_
          refine AOps.gread rfl rfl rfl rfl rfl (.cons 99 _ _ _ rfl (by first | exact .strip _ _ id | (refine .strip _ _ (fun h => ?_); simp_all; done) | exact .same _) .nil) (fun hG => ARead.binOp rfl rfl rfl rfl) rfl rfl ?_
          refine AOps.gread rfl rfl rfl rfl rfl (.cons 100 _ _ _ rfl (by first | exact .strip _ _ id | (refine .strip _ _ (fun h => ?_); simp_all; done) | exact .same _) .nil) (fun hG => ARead.move rfl rfl) rfl rfl ?_
          refine AOps.keep [1, 97, 101] rfl ?_
          refine AOps.gread rfl rfl rfl rfl rfl (.cons 1 _ _ _ rfl (by first | exact .strip _ _ id | (refine .strip _ _ (fun h => ?_); simp_all; done) | exact .same _) .nil) (fun hG => ARead.fieldAddr tabOk rfl rfl rfl rfl (by decide) rfl) rfl rfl ?_
          refine AOps.gread rfl rfl rfl rfl rfl (.cons 102 _ _ _ rfl (by first | exact .strip _ _ id | (refine .strip _ _ (fun h => ?_); simp_all; done) | exact .same _) .nil) (fun hG => ARead.load tabOk rfl rfl rfl (by repeat (first | exact Has.head _ | apply Has.tail)) (by first | decide | omega) rfl rfl) rfl rfl ?_
          refine AOps.gread rfl rfl rfl rfl rfl (.cons 103 _ _ _ rfl (by first | exact .strip _ _ id | (refine .strip _ _ (fun h => ?_); simp_all; done) | exact .same _) .nil) (fun hG => ARead.binOp rfl rfl rfl rfl) rfl rfl ?_
          first | refine AOps.gread rfl rfl rfl rfl rfl (.cons 101 _ _ _ rfl (by first | exact .strip _ _ id | (refine .strip _ _ (fun h => ?_); simp_all; done) | exact .same _) (.cons 104 _ _ _ rfl (by first | exact .strip _ _ id | (refine .strip _ _ (fun h => ?_); simp_all; done) | exact .same _) .nil)) (fun hG => ARead.pickB rfl rfl rfl (by first | exact .strip _ _ id | (refine .strip _ _ (fun h => ?_); simp_all; done) | exact .same _) rfl (by first | exact .strip _ _ id | (refine .strip _ _ (fun h => ?_); simp_all; done) | exact .same _)) rfl rfl ?_ | refine AOps.gread rfl rfl rfl rfl rfl (.cons 101 _ _ _ rfl (by first | exact .strip _ _ id | (refine .strip _ _ (fun h => ?_); simp_all; done) | exact .same _) (.cons 104 _ _ _ rfl (by first | exact .strip _ _ id | (refine .strip _ _ (fun h => ?_); simp_all; done) | exact .same _) .nil)) (fun hG => ARead.pick rfl rfl rfl) rfl rfl ?_
          refine AOps.keep [97, 105] rfl ?_
          first | refine AOps.read (ARead.pickB rfl rfl rfl (by first | exact .strip _ _ id | (refine .strip _ _ (fun h => ?_); simp_all; done) | exact .same _) rfl (by first | exact .strip _ _ id | (refine .strip _ _ (fun h => ?_); simp_all; done) | exact .same _)) rfl rfl rfl ?_ | refine AOps.read (ARead.pick rfl rfl rfl) rfl rfl rfl ?_
          refine AOps.nil (hK21 _ _ _ ?_); clear hK21 K21
          refine AWp.keep [106] rfl ?_
          refine AWp.cond rfl (fun hb22 => ?_) (fun hb22 => ?_)
          · have hc22 := hb22; clear hb22; try simp only [decide_eq_true_eq, decide_eq_false_iff_not, Bool.not_eq_true, Bool.not_eq_false, Int.not_lt, Int.not_le, Bool.not_eq_true', Bool.not_eq_false'] at hc22
            refine AWp.regK fun K23 hK23 => ?_
            refine AOps.read (ARead.assign rfl rfl) rfl rfl rfl ?_
            refine AOps.nil (hK23 _ _ _ ?_); clear hK23 K23
            refine AWp.keep [2] rfl ?_
            refine AWp.ret ?_
            refine ⟨Or.inr rfl, _, (.tmp _ _ _ _ rfl .nil), ?_⟩
            (try clear hK23 K23); (try clear hK22 K22); (try clear hK21 K21); (try clear hK20 K20); (try clear hK19 K19); (try clear hK18 K18); (try clear hK17 K17); (try clear hK16 K16); (try clear hK15 K15); (try clear hK14 K14); (try clear hK13 K13); (try clear hK12 K12); (try clear hK11 K11); (try clear hK10 K10); (try clear hK9 K9); (try clear hK8 K8); (try clear hK7 K7); (try clear hK6 K6); (try clear hK5 K5); (try clear hK4 K4); (try clear hK3 K3); (try clear hK2 K2); (try clear hK1 K1)
            show packR _ = _
            rcases (show o.kind = 1 ∨ o.kind = 2 ∨ o.kind = 3 ∨ o.kind = 4 ∨ o.kind = 5 ∨ (o.kind ≠ 1 ∧ o.kind ≠ 2 ∧ o.kind ≠ 3 ∧ o.kind ≠ 4 ∧ o.kind ≠ 5 ∧ ¬ (1 ≤ o.kind ∧ o.kind ≤ 5)) from by omega) with h | h | h | h | h | ⟨h1, h2, h3, h4, h5, h6⟩ <;> simp_all [packR, checkOpF, fIs, fKey, fVal, fRan, fMost] <;> grind
          · have hc22 := hb22; clear hb22; try simp only [decide_eq_true_eq, decide_eq_false_iff_not, Bool.not_eq_true, Bool.not_eq_false, Int.not_lt, Int.not_le, Bool.not_eq_true', Bool.not_eq_false'] at hc22
            refine AWp.skip (hK20 _ _ _ ?_); try clear hK20 K20
            refine AWp.keep [] rfl ?_
            refine AWp.regK fun K24 hK24 => ?_
            refine AOps.read (ARead.assign rfl rfl) rfl rfl rfl ?_
            refine AOps.nil (hK24 _ _ _ ?_); clear hK24 K24
            refine AWp.keep [2] rfl ?_
            refine AWp.ret ?_
            refine ⟨Or.inr rfl, _, (.tmp _ _ _ _ rfl .nil), ?_⟩
            (try clear hK24 K24); (try clear hK23 K23); (try clear hK22 K22); (try clear hK21 K21); (try clear hK20 K20); (try clear hK19 K19); (try clear hK18 K18); (try clear hK17 K17); (try clear hK16 K16); (try clear hK15 K15); (try clear hK14 K14); (try clear hK13 K13); (try clear hK12 K12); (try clear hK11 K11); (try clear hK10 K10); (try clear hK9 K9); (try clear hK8 K8); (try clear hK7 K7); (try clear hK6 K6); (try clear hK5 K5); (try clear hK4 K4); (try clear hK3 K3); (try clear hK2 K2); (try clear hK1 K1)
            show packR _ = _
            rcases (show o.kind = 1 ∨ o.kind = 2 ∨ o.kind = 3 ∨ o.kind = 4 ∨ o.kind = 5 ∨ (o.kind ≠ 1 ∧ o.kind ≠ 2 ∧ o.kind ≠ 3 ∧ o.kind ≠ 4 ∧ o.kind ≠ 5 ∧ ¬ (1 ≤ o.kind ∧ o.kind ≤ 5)) from by omega) with h | h | h | h | h | ⟨h1, h2, h3, h4, h5, h6⟩ <;> simp_all [packR, checkOpF, fIs, fKey, fVal, fRan, fMost] <;> grind

end Go.Sl

/- Walks of the references 04, 12: lists. No condition beside those in the statements. -/
namespace Go.Sl
open Go Go.Proofs 
set_option linter.unusedVariables false
set_option linter.unusedSimpArgs false
set_option maxRecDepth 20000
set_option maxHeartbeats 400000
def lastKey (m : List Pr) (i : Nat) : Str := if i = 0 then [] else (m.getD (i - 1) pr0).key
theorem lastKey_succ (m : List Pr) (i : Nat) : lastKey m (i + 1) = (m.getD i pr0).key := by simp [lastKey]
theorem sle_empty {k : Str} (h : checkKeyF k = 0) : sle k [] = false := by
  unfold checkKeyF at h; split at h
  · cases h
  · rename_i h1
    have h2 := (not_or.1 h1).1
    cases k with
    | nil => exact absurd rfl h2
    | cons a l => simp [sle, ble, bl_nil]
/-- What the step of a map's order decides. -/
theorem mapStep {m : List Pr} {x : Nat} {b : Bool} (hk : checkKeyF (m.getD x pr0).key = 0) (h : (bif decide (0 < (x : Int)) then !Op.bytesLess (m.getD (x - 1) pr0).key (m.getD x pr0).key else false) = b) : sle (m.getD x pr0).key (lastKey m x) = b := by
  by_cases h0 : x = 0
  · subst h0; rw [← h]; exact sle_empty hk
  · rw [decide_eq_true (show 0 < (x : Int) by omega)] at h
    rw [← h, lastKey, if_neg h0]; exact ble_not
def seqBad (last : Option Int) (s : Int) : Bool := match last with | some q => decide (s ≤ q) | none => false
theorem bufCheck_cons (last : Option Int) (y : En) (r : List En) : bufCheckF last (y :: r) = if checkOpF y.op ≠ 0 then checkOpF y.op else if fWri y.op.kind = false then 40 else if seqBad last y.seq = true then 1 else bufCheckF (some y.seq) r := by cases last <;> rfl
theorem seqStep {l : List En} {x : Nat} {b : Bool} (h : (bif decide (0 < (x : Int)) then decide ((l.getD x en0).seq ≤ (l.getD (x - 1) en0).seq) else false) = b) :
    seqBad (lastSeq l x) (l.getD x en0).seq = b := by
  by_cases h0 : x = 0
  · subst h0; rw [← h]; rfl
  · rw [decide_eq_true (show 0 < (x : Int) by omega)] at h
    rw [← h, lastSeq, if_neg h0]
    rfl
theorem lastSeq_succ (l : List En) (x : Nat) : lastSeq l (x + 1) = some (l.getD x en0).seq := by simp [lastSeq]

theorem rCheckMap_ok (nil : Bool) (m : List Pr) (hm : m.length ≤ 1073741824) : APure Try.prog 87 [prs nil m] (vi (checkMapF [] m)) := by
  refine APure.intro fun N0 => ?_
  refine ACall.of_body tabOk (tab := tab) (fn := Try.f87) Try.func87 (by kernel_rfl) rfl (by simp [Try.f87]) ?_
  show AWp Try.prog 34 _ N0 [(0, prs nil m)] [] _
  refine AWp.regK fun K1 hK1 => ?_
  refine AOps.read (ARead.assign rfl rfl) rfl rfl rfl ?_
  refine AOps.nil (hK1 _ _ _ ?_); clear hK1 K1
  refine AWp.keep [0] rfl ?_
  refine AWp.seqK fun K2 hK2 => ?_
  refine AWp.regK fun K3 hK3 => ?_
  refine AOps.read (ARead.move rfl rfl) rfl rfl rfl ?_
  refine AOps.read (ARead.lenSl tabOk rfl rfl rfl rfl rfl) rfl rfl rfl ?_
  refine AOps.read (ARead.move rfl rfl) rfl rfl rfl ?_
  refine AOps.nil (hK3 _ _ _ ?_); clear hK3 K3
  refine AWp.keep [0, 5, 6, 7] rfl ?_
  refine AWp.block ?_
  refine AWp.loopP (α := Nat) [0, 5, 6, 7] (fun x N => [(0, prs nil m), (5, prs nil m), (6, vi m.length), (7, vi x)]) (fun x N => []) (fun x N => x ≤ m.length ∧ checkMapF (lastKey m x) (m.drop x) = checkMapF [] m) (fun x => m.length - x) (0) rfl (.nil _) (⟨Nat.zero_le _, rfl⟩) (fun x N hN hg K5 hK5 => ?_)
  obtain ⟨hg1, hg2⟩ := hg
  have e : ((x : Int) - 1).toNat = x - 1 := (by omega)
  refine AWp.regK fun K6 hK6 => ?_
  refine AOps.read (ARead.binOp rfl rfl rfl rfl) rfl rfl rfl ?_
  refine AOps.nil (hK6 _ _ _ ?_); clear hK6 K6
  refine AWp.keep [0, 5, 6, 7, 8] rfl ?_
  refine AWp.seqK fun K7 hK7 => ?_
  refine AWp.cond rfl (fun hb8 => ?_) (fun hb8 => ?_)
  · have hc8 := hb8; clear hb8; try simp only [decide_eq_true_eq, decide_eq_false_iff_not, Bool.not_eq_true, Bool.not_eq_false, Int.not_lt, Int.not_le, Bool.not_eq_true', Bool.not_eq_false'] at hc8
    have hlt : x < m.length := by omega
    rw [drop_getD pr0 hlt] at hg2
    simp only [checkMapF] at hg2
    refine AWp.skip (hK7 _ _ _ ?_); try clear hK7 K7
    refine AWp.keep [0, 5, 6, 7] rfl ?_
    refine AWp.seqK fun K9 hK9 => ?_
    refine AWp.block ?_
    refine AWp.regK fun K11 hK11 => ?_
    refine AOps.read (ARead.move rfl rfl) rfl rfl rfl ?_
    refine AOps.read (ARead.indexAddrF tabOk rfl rfl rfl rfl rfl rfl rfl (by omega) (by omega)) rfl rfl rfl ?_
    refine AOps.read (ARead.loadF tabOk rfl rfl rfl rfl) rfl rfl rfl ?_
    refine AOps.op1 (AOp.alloc tabOk rfl rfl rfl) rfl rfl rfl ?_
    refine AOps.keep [0, 4, 5, 6, 7, 9, 11] rfl ?_
    refine AOps.read (ARead.assign rfl rfl) rfl rfl rfl ?_
    first | refine AOps.op10 (AOp.storeC tabOk rfl rfl rfl rfl (by repeat (first | exact Has.head _ | apply Has.tail)) rfl (Nat.le_of_ble_eq_true rfl) rfl) rfl rfl ?_ | refine AOps.op10 (AOp.store tabOk rfl rfl rfl rfl (by repeat (first | exact Has.head _ | apply Has.tail)) (by first | decide | omega) rfl (by decide) rfl) rfl rfl ?_
    refine AOps.nil (hK11 _ _ _ ?_); clear hK11 K11
    refine AWp.keep [0, 3, 4, 5, 6, 7] rfl ?_
    refine AWp.seqK fun K12 hK12 => ?_
    refine AWp.regK fun K13 hK13 => ?_
    refine AOps.read (ARead.fieldAddr tabOk rfl rfl rfl rfl (by decide) rfl) rfl rfl rfl ?_
    refine AOps.read (ARead.load tabOk rfl rfl rfl (by repeat (first | exact Has.head _ | apply Has.tail)) (by first | decide | omega) rfl rfl) rfl rfl rfl ?_
    refine AOps.pcall (rCheckKey_ok _) rfl (by first | exact .inr ⟨rfl, rfl, rfl⟩ | exact .inl rfl) rfl rfl rfl rfl (fun N hN => ?_)
    refine AOps.read (ARead.binOp rfl rfl rfl rfl) rfl rfl rfl ?_
    refine AOps.nil (hK13 _ _ _ ?_); clear hK13 K13
    refine AWp.keep [0, 3, 4, 5, 6, 7, 15] rfl ?_
    refine AWp.cond rfl (fun hb14 => ?_) (fun hb14 => ?_)
    · have hc14 := hb14; clear hb14; try simp only [decide_eq_true_eq, decide_eq_false_iff_not, Bool.not_eq_true, Bool.not_eq_false, Int.not_lt, Int.not_le, Bool.not_eq_true', Bool.not_eq_false'] at hc14
      refine AWp.regK fun K15 hK15 => ?_
      refine AOps.read (ARead.assign rfl rfl) rfl rfl rfl ?_
      refine AOps.nil (hK15 _ _ _ ?_); clear hK15 K15
      refine AWp.keep [2] rfl ?_
      refine AWp.ret ?_
      refine ⟨Or.inr rfl, _, (.tmp _ _ _ _ rfl .nil), ?_⟩
      (try clear hK15 K15); (try clear hK14 K14); (try clear hK13 K13); (try clear hK12 K12); (try clear hK11 K11); (try clear hK10 K10); (try clear hK9 K9); (try clear hK8 K8); (try clear hK7 K7); (try clear hK6 K6); (try clear hK5 K5); (try clear hK4 K4); (try clear hK3 K3); (try clear hK2 K2); (try clear hK1 K1)
      show packR _ = _
      simp only [packR]; rw [← hg2]; all_goals first | (rw [if_pos (by simpa using hc14)] <;> rfl) | (rw [if_neg (by simpa using hc14), if_pos (by omega)] <;> rfl) | (rw [if_neg (by simpa using hc14), if_neg (by omega), if_pos hs] <;> rfl)
    · have hc14 := hb14; clear hb14; try simp only [decide_eq_true_eq, decide_eq_false_iff_not, Bool.not_eq_true, Bool.not_eq_false, Int.not_lt, Int.not_le, Bool.not_eq_true', Bool.not_eq_false'] at hc14
      refine AWp.skip (hK12 _ _ _ ?_); try clear hK12 K12
      refine AWp.keep [0, 3, 4, 5, 6, 7] rfl ?_
      refine AWp.seqK fun K16 hK16 => ?_
      refine AWp.regK fun K17 hK17 => ?_
      refine AOps.read (ARead.fieldAddr tabOk rfl rfl rfl rfl (by decide) rfl) rfl rfl rfl ?_
      refine AOps.read (ARead.load tabOk rfl rfl rfl (by repeat (first | exact Has.head _ | apply Has.tail)) (by first | decide | omega) rfl rfl) rfl rfl rfl ?_
      refine AOps.read (ARead.lenStr tabOk rfl rfl rfl rfl) rfl rfl rfl ?_
      refine AOps.read (ARead.binOp rfl rfl rfl rfl) rfl rfl rfl ?_
      refine AOps.nil (hK17 _ _ _ ?_); clear hK17 K17
      refine AWp.keep [0, 3, 4, 5, 6, 7, 19] rfl ?_
      refine AWp.cond rfl (fun hb18 => ?_) (fun hb18 => ?_)
      · have hc18 := hb18; clear hb18; try simp only [decide_eq_true_eq, decide_eq_false_iff_not, Bool.not_eq_true, Bool.not_eq_false, Int.not_lt, Int.not_le, Bool.not_eq_true', Bool.not_eq_false'] at hc18
        simp only [Int.toNat_natCast] at hc18
        refine AWp.regK fun K19 hK19 => ?_
        refine AOps.read (ARead.assign rfl rfl) rfl rfl rfl ?_
        refine AOps.nil (hK19 _ _ _ ?_); clear hK19 K19
        refine AWp.keep [2] rfl ?_
        refine AWp.ret ?_
        refine ⟨Or.inr rfl, _, (.tmp _ _ _ _ rfl .nil), ?_⟩
        (try clear hK19 K19); (try clear hK18 K18); (try clear hK17 K17); (try clear hK16 K16); (try clear hK15 K15); (try clear hK14 K14); (try clear hK13 K13); (try clear hK12 K12); (try clear hK11 K11); (try clear hK10 K10); (try clear hK9 K9); (try clear hK8 K8); (try clear hK7 K7); (try clear hK6 K6); (try clear hK5 K5); (try clear hK4 K4); (try clear hK3 K3); (try clear hK2 K2); (try clear hK1 K1)
        show packR _ = _
        simp only [packR]; rw [← hg2]; all_goals first | (rw [if_pos (by simpa using hc14)] <;> rfl) | (rw [if_neg (by simpa using hc14), if_pos (by omega)] <;> rfl) | (rw [if_neg (by simpa using hc14), if_neg (by omega), if_pos hs] <;> rfl)
      · have hc18 := hb18; clear hb18; try simp only [decide_eq_true_eq, decide_eq_false_iff_not, Bool.not_eq_true, Bool.not_eq_false, Int.not_lt, Int.not_le, Bool.not_eq_true', Bool.not_eq_false'] at hc18
        simp only [Int.toNat_natCast] at hc18
        refine AWp.skip (hK16 _ _ _ ?_); try clear hK16 K16
        refine AWp.keep [0, 3, 4, 5, 6, 7] rfl ?_
        refine AWp.drawnK mixed (take_all _) fun K20 hK20 => ?_
        refine AAny.take 0 (ARead.move rfl rfl) rfl (by kernel_rfl) (by kernel_rfl) (by kernel_rfl) rfl rfl rfl ?_
        refine AAny.take 1 (ARead.binOp rfl rfl rfl rfl) rfl (by kernel_rfl) (by kernel_rfl) (by kernel_rfl) rfl rfl rfl ?_
        refine AAny.keep [0, 3, 4, 21] [0, 3, 4, 5, 6, 7, 21] rfl rfl ?_
        refine AAny.take 2 (ARead.move rfl rfl) rfl (by kernel_rfl) (by kernel_rfl) (by kernel_rfl) rfl rfl rfl ?_
        refine AAny.gtake 3 rfl rfl rfl rfl rfl (.cons 0 _ _ _ rfl (by first | exact .strip _ _ id | (refine .strip _ _ (fun h => ?_); simp_all; done) | exact .same _) .nil) (fun hG => ARead.move rfl rfl) rfl (by kernel_rfl) (by kernel_rfl) (by kernel_rfl) rfl rfl ?_
        refine AAny.gtake 4 rfl rfl rfl rfl rfl (.cons 3 _ _ _ rfl (by first | exact .strip _ _ id | (refine .strip _ _ (fun h => ?_); simp_all; done) | exact .same _) .nil) (fun hG => ARead.move rfl rfl) rfl (by kernel_rfl) (by kernel_rfl) (by kernel_rfl) rfl rfl ?_
        refine AAny.keep [4, 22, 23, 24] [0, 4, 5, 6, 7, 22, 23, 24] rfl rfl ?_
        first | refine AAny.gtake 5 rfl rfl rfl rfl rfl (.cons 24 _ _ _ rfl (by first | exact .strip _ _ id | (refine .strip _ _ (fun h => ?_); simp_all; done) | exact .same _) .nil) (fun hG => ARead.binW rfl rfl rfl rfl (i64_ok (by first | omega | (simp at hG; omega)) (by first | omega | (simp at hG; omega)))) rfl (by kernel_rfl) (by kernel_rfl) (by kernel_rfl) rfl rfl ?_ | refine AAny.gtake 5 rfl rfl rfl rfl rfl (.cons 24 _ _ _ rfl (by first | exact .strip _ _ id | (refine .strip _ _ (fun h => ?_); simp_all; done) | exact .same _) .nil) (fun hG => ARead.binOp rfl rfl rfl rfl) rfl (by kernel_rfl) (by kernel_rfl) (by kernel_rfl) rfl rfl ?_
        refine AAny.gtake 6 rfl rfl rfl rfl rfl (.cons 23 _ _ _ rfl (by first | exact .strip _ _ id | (refine .strip _ _ (fun h => ?_); simp_all; done) | exact .same _) (.cons 25 _ _ _ rfl (by first | exact .strip _ _ id | (refine .strip _ _ (fun h => ?_); simp_all; done) | exact .same _) .nil)) (fun hG => ARead.indexAddrF tabOk rfl rfl rfl rfl rfl rfl rfl (by first | omega | (simp at hG; omega)) (by first | omega | (simp at hG; omega))) rfl (by kernel_rfl) (by kernel_rfl) (by kernel_rfl) rfl rfl ?_
        refine AAny.gtake 7 rfl rfl rfl rfl rfl (.cons 26 _ _ _ rfl (by first | exact .strip _ _ id | (refine .strip _ _ (fun h => ?_); simp_all; done) | exact .same _) .nil) (fun hG => ARead.fieldAddrF tabOk rfl rfl rfl rfl (by decide) rfl) rfl (by kernel_rfl) (by kernel_rfl) (by kernel_rfl) rfl rfl ?_
        refine AAny.keep [4, 22, 27] [0, 4, 5, 6, 7, 22, 27] rfl rfl ?_
        refine AAny.gtake 8 rfl rfl rfl rfl rfl (.cons 27 _ _ _ rfl (by first | exact .strip _ _ id | (refine .strip _ _ (fun h => ?_); simp_all; done) | exact .same _) .nil) (fun hG => ARead.loadF tabOk rfl rfl rfl rfl) rfl (by kernel_rfl) (by kernel_rfl) (by kernel_rfl) rfl rfl ?_
        refine AAny.gtake 9 rfl rfl rfl rfl rfl (.cons 4 _ _ _ rfl (by first | exact .strip _ _ id | (refine .strip _ _ (fun h => ?_); simp_all; done) | exact .same _) .nil) (fun hG => ARead.fieldAddr tabOk rfl rfl rfl rfl (by decide) rfl) rfl (by kernel_rfl) (by kernel_rfl) (by kernel_rfl) rfl rfl ?_
        refine AAny.gtake 10 rfl rfl rfl rfl rfl (.cons 29 _ _ _ rfl (by first | exact .strip _ _ id | (refine .strip _ _ (fun h => ?_); simp_all; done) | exact .same _) .nil) (fun hG => ARead.load tabOk rfl rfl rfl (by repeat (first | exact Has.head _ | apply Has.tail)) (by first | decide | omega) rfl rfl) rfl (by kernel_rfl) (by kernel_rfl) (by kernel_rfl) rfl rfl ?_
        refine AAny.keep [22, 28, 30] [0, 5, 6, 7, 22, 28, 30] rfl rfl ?_
        refine AAny.gtake 11 rfl rfl rfl rfl rfl (.cons 28 _ _ _ rfl (by first | exact .strip _ _ id | (refine .strip _ _ (fun h => ?_); simp_all; done) | exact .same _) (.cons 30 _ _ _ rfl (by first | exact .strip _ _ id | (refine .strip _ _ (fun h => ?_); simp_all; done) | exact .same _) .nil)) (fun hG => ARead.binOp rfl rfl rfl rfl) rfl (by kernel_rfl) (by kernel_rfl) (by kernel_rfl) rfl rfl ?_
        first | refine AAny.take 12 (ARead.pickB rfl rfl rfl (by first | exact .strip _ _ id | (refine .strip _ _ (fun h => ?_); simp_all; done) | exact .same _) rfl (by first | exact .strip _ _ id | (refine .strip _ _ (fun h => ?_); simp_all; done) | exact .same _)) rfl (by kernel_rfl) (by kernel_rfl) (by kernel_rfl) rfl rfl rfl ?_ | refine AAny.take 12 (ARead.pick rfl rfl rfl) rfl (by kernel_rfl) (by kernel_rfl) (by kernel_rfl) rfl rfl rfl ?_
        refine AAny.done (by kernel_rfl) (hK20 _ _ _ ?_); clear hK20 K20
        try refine AWp.nilApp ?_
        refine AWp.keep [0, 5, 6, 7, 32] rfl ?_
        refine AWp.cond rfl (fun hb21 => ?_) (fun hb21 => ?_)
        · have hc21 := hb21; clear hb21; try simp only [decide_eq_true_eq, decide_eq_false_iff_not, Bool.not_eq_true, Bool.not_eq_false, Int.not_lt, Int.not_le, Bool.not_eq_true', Bool.not_eq_false'] at hc21
          simp only [Int.toNat_natCast, e] at hc21
          have hs := mapStep (m := m) (x := x) (by simpa using hc14) hc21
          refine AWp.regK fun K22 hK22 => ?_
          refine AOps.read (ARead.assign rfl rfl) rfl rfl rfl ?_
          refine AOps.nil (hK22 _ _ _ ?_); clear hK22 K22
          refine AWp.keep [2] rfl ?_
          refine AWp.ret ?_
          refine ⟨Or.inr rfl, _, (.tmp _ _ _ _ rfl .nil), ?_⟩
          (try clear hK22 K22); (try clear hK21 K21); (try clear hK20 K20); (try clear hK19 K19); (try clear hK18 K18); (try clear hK17 K17); (try clear hK16 K16); (try clear hK15 K15); (try clear hK14 K14); (try clear hK13 K13); (try clear hK12 K12); (try clear hK11 K11); (try clear hK10 K10); (try clear hK9 K9); (try clear hK8 K8); (try clear hK7 K7); (try clear hK6 K6); (try clear hK5 K5); (try clear hK4 K4); (try clear hK3 K3); (try clear hK2 K2); (try clear hK1 K1)
          show packR _ = _
          simp only [packR]; rw [← hg2]; all_goals first | (rw [if_pos (by simpa using hc14)] <;> rfl) | (rw [if_neg (by simpa using hc14), if_pos (by omega)] <;> rfl) | (rw [if_neg (by simpa using hc14), if_neg (by omega), if_pos hs] <;> rfl)
        · have hc21 := hb21; clear hb21; try simp only [decide_eq_true_eq, decide_eq_false_iff_not, Bool.not_eq_true, Bool.not_eq_false, Int.not_lt, Int.not_le, Bool.not_eq_true', Bool.not_eq_false'] at hc21
          simp only [Int.toNat_natCast, e] at hc21
          have hs := mapStep (m := m) (x := x) (by simpa using hc14) hc21
          refine AWp.skip (hK9 _ _ _ ?_); try clear hK9 K9
          refine AWp.keep [0, 5, 6, 7] rfl ?_
          refine AWp.region ?_
          first | refine AOps.read (ARead.binW rfl rfl rfl rfl (i64_ok (by omega) (by omega))) rfl rfl rfl ?_ | refine AOps.read (ARead.binOp rfl rfl rfl rfl) rfl rfl rfl ?_
          refine AOps.read (ARead.move rfl rfl) rfl rfl rfl ?_
          (try clear hK22 K22); (try clear hK21 K21); (try clear hK20 K20); (try clear hK19 K19); (try clear hK18 K18); (try clear hK17 K17); (try clear hK16 K16); (try clear hK15 K15); (try clear hK14 K14); (try clear hK13 K13); (try clear hK12 K12); (try clear hK11 K11); (try clear hK10 K10); (try clear hK9 K9); (try clear hK8 K8); (try clear hK7 K7); (try clear hK6 K6); (try clear hK4 K4); (try clear hK3 K3); (try clear hK2 K2); (try clear hK1 K1)
          refine AOps.nil (hK5 _ _ _ (x + 1) _ (by rfl) (.nil _) (by rw [lastKey_succ]; refine ⟨by omega, ?_⟩; rw [← hg2, if_neg (by simpa using hc14), if_neg (by omega), if_neg (by rw [hs]; exact Bool.false_ne_true)]) (by omega))
  · have hc8 := hb8; clear hb8; try simp only [decide_eq_true_eq, decide_eq_false_iff_not, Bool.not_eq_true, Bool.not_eq_false, Int.not_lt, Int.not_le, Bool.not_eq_true', Bool.not_eq_false'] at hc8
    rw [List.drop_of_length_le (by omega)] at hg2
    simp only [checkMapF] at hg2
    refine AWp.exit (Or.inl ⟨rfl, (hK2 _ _ _ ?_)⟩); try clear hK2 K2
    refine AWp.keep [] rfl ?_
    refine AWp.regK fun K23 hK23 => ?_
    refine AOps.read (ARead.assign rfl rfl) rfl rfl rfl ?_
    refine AOps.nil (hK23 _ _ _ ?_); clear hK23 K23
    refine AWp.keep [2] rfl ?_
    refine AWp.ret ?_
    refine ⟨Or.inr rfl, _, (.tmp _ _ _ _ rfl .nil), ?_⟩
    (try clear hK23 K23); (try clear hK22 K22); (try clear hK21 K21); (try clear hK20 K20); (try clear hK19 K19); (try clear hK18 K18); (try clear hK17 K17); (try clear hK16 K16); (try clear hK15 K15); (try clear hK14 K14); (try clear hK13 K13); (try clear hK12 K12); (try clear hK11 K11); (try clear hK10 K10); (try clear hK9 K9); (try clear hK8 K8); (try clear hK7 K7); (try clear hK6 K6); (try clear hK5 K5); (try clear hK4 K4); (try clear hK3 K3); (try clear hK2 K2); (try clear hK1 K1)
    show packR _ = _
    simp only [packR]; rw [← hg2]; all_goals first | (rw [if_pos (by simpa using hc14)] <;> rfl) | (rw [if_neg (by simpa using hc14), if_pos (by omega)] <;> rfl) | (rw [if_neg (by simpa using hc14), if_neg (by omega), if_pos hs] <;> rfl)

theorem rPivots_ok (nil : Bool) (l : List Str) (hl : l.length ≤ 1073741824) : APure Try.prog 88 [strs nil l] (vi (if pivOkF none l = true then 0 else 20)) := by
  refine APure.intro fun N0 => ?_
  refine ACall.of_body tabOk (tab := tab) (fn := Try.f88) Try.func88 (by kernel_rfl) rfl (by simp [Try.f88]) ?_
  show AWp Try.prog 29 _ N0 [(0, strs nil l)] [] _
  refine AWp.regK fun K1 hK1 => ?_
  refine AOps.read (ARead.assign rfl rfl) rfl rfl rfl ?_
  refine AOps.nil (hK1 _ _ _ ?_); clear hK1 K1
  refine AWp.keep [0] rfl ?_
  refine AWp.seqK fun K2 hK2 => ?_
  refine AWp.regK fun K3 hK3 => ?_
  refine AOps.read (ARead.move rfl rfl) rfl rfl rfl ?_
  refine AOps.read (ARead.lenSl tabOk rfl rfl rfl rfl rfl) rfl rfl rfl ?_
  refine AOps.read (ARead.move rfl rfl) rfl rfl rfl ?_
  refine AOps.nil (hK3 _ _ _ ?_); clear hK3 K3
  refine AWp.keep [0, 5, 6, 7] rfl ?_
  refine AWp.block ?_
  refine AWp.loopP (α := Nat) [0, 5, 6, 7] (fun x N => [(0, strs nil l), (5, strs nil l), (6, vi l.length), (7, vi x)]) (fun x N => []) (fun x N => x ≤ l.length ∧ pivOkF (lastPiv l x) (l.drop x) = pivOkF none l) (fun x => l.length - x) (0) rfl (.nil _) (⟨Nat.zero_le _, rfl⟩) (fun x N hN hg K5 hK5 => ?_)
  obtain ⟨hg1, hg2⟩ := hg
  have e : ((x : Int) - 1).toNat = x - 1 := (by omega)
  refine AWp.regK fun K6 hK6 => ?_
  refine AOps.read (ARead.binOp rfl rfl rfl rfl) rfl rfl rfl ?_
  refine AOps.nil (hK6 _ _ _ ?_); clear hK6 K6
  refine AWp.keep [0, 5, 6, 7, 8] rfl ?_
  refine AWp.seqK fun K7 hK7 => ?_
  refine AWp.cond rfl (fun hb8 => ?_) (fun hb8 => ?_)
  · have hc8 := hb8; clear hb8; try simp only [decide_eq_true_eq, decide_eq_false_iff_not, Bool.not_eq_true, Bool.not_eq_false, Int.not_lt, Int.not_le, Bool.not_eq_true', Bool.not_eq_false'] at hc8
    have hlt : x < l.length := by omega
    rw [drop_getD [] hlt] at hg2
    simp only [pivOkF] at hg2
    refine AWp.skip (hK7 _ _ _ ?_); try clear hK7 K7
    refine AWp.keep [0, 5, 6, 7] rfl ?_
    refine AWp.seqK fun K9 hK9 => ?_
    refine AWp.block ?_
    refine AWp.regK fun K11 hK11 => ?_
    refine AOps.read (ARead.move rfl rfl) rfl rfl rfl ?_
    refine AOps.read (ARead.indexAddrF tabOk rfl rfl rfl rfl rfl rfl rfl (by omega) (by omega)) rfl rfl rfl ?_
    refine AOps.read (ARead.loadF tabOk rfl rfl rfl rfl) rfl rfl rfl ?_
    refine AOps.read (ARead.assign rfl rfl) rfl rfl rfl ?_
    refine AOps.keep [0, 3, 5, 6, 7, 11] rfl ?_
    refine AOps.read (ARead.assign rfl rfl) rfl rfl rfl ?_
    refine AOps.nil (hK11 _ _ _ ?_); clear hK11 K11
    refine AWp.keep [0, 3, 4, 5, 6, 7] rfl ?_
    refine AWp.regK fun K12 hK12 => ?_
    refine AOps.read (ARead.move rfl rfl) rfl rfl rfl ?_
    refine AOps.pcall (rCheckKey_ok _) rfl (by first | exact .inr ⟨rfl, rfl, rfl⟩ | exact .inl rfl) rfl rfl rfl rfl (fun N hN => ?_)
    refine AOps.read (ARead.binOp rfl rfl rfl rfl) rfl rfl rfl ?_
    refine AOps.read (ARead.move rfl rfl) rfl rfl rfl ?_
    refine AOps.keep [0, 3, 4, 5, 6, 7, 15] rfl ?_
    refine AOps.gread rfl rfl rfl rfl rfl (.cons 3 _ _ _ rfl (by first | exact .strip _ _ id | (refine .strip _ _ (fun h => ?_); simp_all; done) | exact .same _) .nil) (fun hG => ARead.move rfl rfl) rfl rfl ?_
    refine AOps.gread rfl rfl rfl rfl rfl (.cons 16 _ _ _ rfl (by first | exact .strip _ _ id | (refine .strip _ _ (fun h => ?_); simp_all; done) | exact .same _) .nil) (fun hG => ARead.binOp rfl rfl rfl rfl) rfl rfl ?_
    refine AOps.gread rfl rfl rfl rfl rfl (.cons 17 _ _ _ rfl (by first | exact .strip _ _ id | (refine .strip _ _ (fun h => ?_); simp_all; done) | exact .same _) .nil) (fun hG => ARead.move rfl rfl) rfl rfl ?_
    refine AOps.gread rfl rfl rfl rfl rfl (.cons 0 _ _ _ rfl (by first | exact .strip _ _ id | (refine .strip _ _ (fun h => ?_); simp_all; done) | exact .same _) .nil) (fun hG => ARead.move rfl rfl) rfl rfl ?_
    refine AOps.keep [0, 3, 4, 5, 6, 7, 15, 18, 19] rfl ?_
    refine AOps.gread rfl rfl rfl rfl rfl (.cons 3 _ _ _ rfl (by first | exact .strip _ _ id | (refine .strip _ _ (fun h => ?_); simp_all; done) | exact .same _) .nil) (fun hG => ARead.move rfl rfl) rfl rfl ?_
    first | refine AOps.gread rfl rfl rfl rfl rfl (.cons 20 _ _ _ rfl (by first | exact .strip _ _ id | (refine .strip _ _ (fun h => ?_); simp_all; done) | exact .same _) .nil) (fun hG => ARead.binW rfl rfl rfl rfl (i64_ok (by first | omega | (simp at hG; omega)) (by first | omega | (simp at hG; omega)))) rfl rfl ?_ | refine AOps.gread rfl rfl rfl rfl rfl (.cons 20 _ _ _ rfl (by first | exact .strip _ _ id | (refine .strip _ _ (fun h => ?_); simp_all; done) | exact .same _) .nil) (fun hG => ARead.binOp rfl rfl rfl rfl) rfl rfl ?_
    refine AOps.gread rfl rfl rfl rfl rfl (.cons 19 _ _ _ rfl (by first | exact .strip _ _ id | (refine .strip _ _ (fun h => ?_); simp_all; done) | exact .same _) (.cons 21 _ _ _ rfl (by first | exact .strip _ _ id | (refine .strip _ _ (fun h => ?_); simp_all; done) | exact .same _) .nil)) (fun hG => ARead.indexAddrF tabOk rfl rfl rfl rfl rfl rfl rfl (by first | omega | (simp at hG; omega)) (by first | omega | (simp at hG; omega))) rfl rfl ?_
    refine AOps.gread rfl rfl rfl rfl rfl (.cons 22 _ _ _ rfl (by first | exact .strip _ _ id | (refine .strip _ _ (fun h => ?_); simp_all; done) | exact .same _) .nil) (fun hG => ARead.loadF tabOk rfl rfl rfl rfl) rfl rfl ?_
    refine AOps.keep [0, 4, 5, 6, 7, 15, 18, 23] rfl ?_
    refine AOps.gread rfl rfl rfl rfl rfl (.cons 4 _ _ _ rfl (by first | exact .strip _ _ id | (refine .strip _ _ (fun h => ?_); simp_all; done) | exact .same _) .nil) (fun hG => ARead.move rfl rfl) rfl rfl ?_
    refine AOps.gread rfl rfl rfl rfl rfl (.cons 23 _ _ _ rfl (by first | exact .strip _ _ id | (refine .strip _ _ (fun h => ?_); simp_all; done) | exact .same _) (.cons 24 _ _ _ rfl (by first | exact .strip _ _ id | (refine .strip _ _ (fun h => ?_); simp_all; done) | exact .same _) .nil)) (fun hG => ARead.binOp rfl rfl rfl rfl) rfl rfl ?_
    first | refine AOps.gread rfl rfl rfl rfl rfl (.cons 18 _ _ _ rfl (by first | exact .strip _ _ id | (refine .strip _ _ (fun h => ?_); simp_all; done) | exact .same _) (.cons 25 _ _ _ rfl (by first | exact .strip _ _ id | (refine .strip _ _ (fun h => ?_); simp_all; done) | exact .same _) .nil)) (fun hG => ARead.pickB rfl rfl rfl (by first | exact .strip _ _ id | (refine .strip _ _ (fun h => ?_); simp_all; done) | exact .same _) rfl (by first | exact .strip _ _ id | (refine .strip _ _ (fun h => ?_); simp_all; done) | exact .same _)) rfl rfl ?_ | refine AOps.gread rfl rfl rfl rfl rfl (.cons 18 _ _ _ rfl (by first | exact .strip _ _ id | (refine .strip _ _ (fun h => ?_); simp_all; done) | exact .same _) (.cons 25 _ _ _ rfl (by first | exact .strip _ _ id | (refine .strip _ _ (fun h => ?_); simp_all; done) | exact .same _) .nil)) (fun hG => ARead.pick rfl rfl rfl) rfl rfl ?_
    first | refine AOps.read (ARead.pickB rfl rfl rfl (by first | exact .strip _ _ id | (refine .strip _ _ (fun h => ?_); simp_all; done) | exact .same _) rfl (by first | exact .strip _ _ id | (refine .strip _ _ (fun h => ?_); simp_all; done) | exact .same _)) rfl rfl rfl ?_ | refine AOps.read (ARead.pick rfl rfl rfl) rfl rfl rfl ?_
    refine AOps.nil (hK12 _ _ _ ?_); clear hK12 K12
    refine AWp.keep [0, 5, 6, 7, 27] rfl ?_
    refine AWp.cond rfl (fun hb13 => ?_) (fun hb13 => ?_)
    · have hc13 := hb13; clear hb13; try simp only [decide_eq_true_eq, decide_eq_false_iff_not, Bool.not_eq_true, Bool.not_eq_false, Int.not_lt, Int.not_le, Bool.not_eq_true', Bool.not_eq_false'] at hc13
      refine AWp.regK fun K14 hK14 => ?_
      refine AOps.read (ARead.assign rfl rfl) rfl rfl rfl ?_
      refine AOps.nil (hK14 _ _ _ ?_); clear hK14 K14
      refine AWp.keep [2] rfl ?_
      refine AWp.ret ?_
      refine ⟨Or.inr rfl, _, (.tmp _ _ _ _ rfl .nil), ?_⟩
      (try clear hK14 K14); (try clear hK13 K13); (try clear hK12 K12); (try clear hK11 K11); (try clear hK10 K10); (try clear hK9 K9); (try clear hK8 K8); (try clear hK7 K7); (try clear hK6 K6); (try clear hK5 K5); (try clear hK4 K4); (try clear hK3 K3); (try clear hK2 K2); (try clear hK1 K1)
      show packR _ = _
      simp only [packR, Int.toNat_natCast] at *; first | (rw [← hg2]; rfl) | (rw [if_neg (by rw [← hg2, pivOk_stop l x _ (by simp only [e] at *; assumption)]; exact Bool.false_ne_true)])
    · have hc13 := hb13; clear hb13; try simp only [decide_eq_true_eq, decide_eq_false_iff_not, Bool.not_eq_true, Bool.not_eq_false, Int.not_lt, Int.not_le, Bool.not_eq_true', Bool.not_eq_false'] at hc13
      refine AWp.skip (hK9 _ _ _ ?_); try clear hK9 K9
      refine AWp.keep [0, 5, 6, 7] rfl ?_
      refine AWp.region ?_
      first | refine AOps.read (ARead.binW rfl rfl rfl rfl (i64_ok (by omega) (by omega))) rfl rfl rfl ?_ | refine AOps.read (ARead.binOp rfl rfl rfl rfl) rfl rfl rfl ?_
      refine AOps.read (ARead.move rfl rfl) rfl rfl rfl ?_
      (try clear hK14 K14); (try clear hK13 K13); (try clear hK12 K12); (try clear hK11 K11); (try clear hK10 K10); (try clear hK9 K9); (try clear hK8 K8); (try clear hK7 K7); (try clear hK6 K6); (try clear hK4 K4); (try clear hK3 K3); (try clear hK2 K2); (try clear hK1 K1)
      refine AOps.nil (hK5 _ _ _ (x + 1) _ (by rfl) (.nil _) (by simp only [Int.toNat_natCast, e] at *; obtain ⟨g1, g2⟩ := pivOk_step _ _ (by assumption); refine ⟨by omega, ?_⟩; rw [← hg2, lastPiv_succ, g1, g2]; rfl) (by omega))
  · have hc8 := hb8; clear hb8; try simp only [decide_eq_true_eq, decide_eq_false_iff_not, Bool.not_eq_true, Bool.not_eq_false, Int.not_lt, Int.not_le, Bool.not_eq_true', Bool.not_eq_false'] at hc8
    rw [List.drop_of_length_le (by omega)] at hg2
    simp only [pivOkF] at hg2
    refine AWp.exit (Or.inl ⟨rfl, (hK2 _ _ _ ?_)⟩); try clear hK2 K2
    refine AWp.keep [] rfl ?_
    refine AWp.regK fun K15 hK15 => ?_
    refine AOps.read (ARead.assign rfl rfl) rfl rfl rfl ?_
    refine AOps.nil (hK15 _ _ _ ?_); clear hK15 K15
    refine AWp.keep [2] rfl ?_
    refine AWp.ret ?_
    refine ⟨Or.inr rfl, _, (.tmp _ _ _ _ rfl .nil), ?_⟩
    (try clear hK15 K15); (try clear hK14 K14); (try clear hK13 K13); (try clear hK12 K12); (try clear hK11 K11); (try clear hK10 K10); (try clear hK9 K9); (try clear hK8 K8); (try clear hK7 K7); (try clear hK6 K6); (try clear hK5 K5); (try clear hK4 K4); (try clear hK3 K3); (try clear hK2 K2); (try clear hK1 K1)
    show packR _ = _
    simp only [packR, Int.toNat_natCast] at *; first | (rw [← hg2]; rfl) | (rw [if_neg (by rw [← hg2, pivOk_stop l x _ (by simp only [e] at *; assumption)]; exact Bool.false_ne_true)])

theorem rBufCheck_ok (nil : Bool) (l : List En) (hl : l.length ≤ 1073741824) : APure Try.prog 89 [ens nil l] (vi (bufCheckF none l)) := by
  refine APure.intro fun N0 => ?_
  refine ACall.of_body tabOk (tab := tab) (fn := Try.f89) Try.func89 (by kernel_rfl) rfl (by simp [Try.f89]) ?_
  show AWp Try.prog 37 _ N0 [(0, ens nil l)] [] _
  refine AWp.regK fun K1 hK1 => ?_
  refine AOps.read (ARead.assign rfl rfl) rfl rfl rfl ?_
  refine AOps.nil (hK1 _ _ _ ?_); clear hK1 K1
  refine AWp.keep [0] rfl ?_
  refine AWp.seqK fun K2 hK2 => ?_
  refine AWp.regK fun K3 hK3 => ?_
  refine AOps.read (ARead.move rfl rfl) rfl rfl rfl ?_
  refine AOps.read (ARead.lenSl tabOk rfl rfl rfl rfl rfl) rfl rfl rfl ?_
  refine AOps.read (ARead.move rfl rfl) rfl rfl rfl ?_
  refine AOps.nil (hK3 _ _ _ ?_); clear hK3 K3
  refine AWp.keep [0, 6, 7, 8] rfl ?_
  refine AWp.block ?_
  refine AWp.loopP (α := Nat) [0, 6, 7, 8] (fun x N => [(0, ens nil l), (6, ens nil l), (7, vi l.length), (8, vi x)]) (fun x N => []) (fun x N => x ≤ l.length ∧ bufCheckF (lastSeq l x) (l.drop x) = bufCheckF none l) (fun x => l.length - x) (0) rfl (.nil _) (⟨Nat.zero_le _, rfl⟩) (fun x N hN hg K5 hK5 => ?_)
  obtain ⟨hg1, hg2⟩ := hg
  have e : ((x : Int) - 1).toNat = x - 1 := (by omega)
  refine AWp.regK fun K6 hK6 => ?_
  refine AOps.read (ARead.binOp rfl rfl rfl rfl) rfl rfl rfl ?_
  refine AOps.nil (hK6 _ _ _ ?_); clear hK6 K6
  refine AWp.keep [0, 6, 7, 8, 9] rfl ?_
  refine AWp.seqK fun K7 hK7 => ?_
  refine AWp.cond rfl (fun hb8 => ?_) (fun hb8 => ?_)
  · have hc8 := hb8; clear hb8; try simp only [decide_eq_true_eq, decide_eq_false_iff_not, Bool.not_eq_true, Bool.not_eq_false, Int.not_lt, Int.not_le, Bool.not_eq_true', Bool.not_eq_false'] at hc8
    have hlt : x < l.length := by omega
    rw [drop_getD en0 hlt] at hg2
    rw [bufCheck_cons] at hg2
    refine AWp.skip (hK7 _ _ _ ?_); try clear hK7 K7
    refine AWp.keep [0, 6, 7, 8] rfl ?_
    refine AWp.seqK fun K9 hK9 => ?_
    refine AWp.block ?_
    refine AWp.regK fun K11 hK11 => ?_
    refine AOps.read (ARead.move rfl rfl) rfl rfl rfl ?_
    refine AOps.read (ARead.indexAddrF tabOk rfl rfl rfl rfl rfl rfl rfl (by omega) (by omega)) rfl rfl rfl ?_
    refine AOps.read (ARead.loadF tabOk rfl rfl rfl rfl) rfl rfl rfl ?_
    refine AOps.op1 (AOp.alloc tabOk rfl rfl rfl) rfl rfl rfl ?_
    refine AOps.keep [0, 4, 6, 7, 8, 10, 12] rfl ?_
    refine AOps.read (ARead.assign rfl rfl) rfl rfl rfl ?_
    first | refine AOps.op10 (AOp.storeC tabOk rfl rfl rfl rfl (by repeat (first | exact Has.head _ | apply Has.tail)) rfl (Nat.le_of_ble_eq_true rfl) rfl) rfl rfl ?_ | refine AOps.op10 (AOp.store tabOk rfl rfl rfl rfl (by repeat (first | exact Has.head _ | apply Has.tail)) (by first | decide | omega) rfl (by decide) rfl) rfl rfl ?_
    refine AOps.nil (hK11 _ _ _ ?_); clear hK11 K11
    refine AWp.keep [0, 3, 4, 6, 7, 8] rfl ?_
    refine AWp.seqK fun K12 hK12 => ?_
    refine AWp.regK fun K13 hK13 => ?_
    refine AOps.read (ARead.fieldAddr tabOk rfl rfl rfl rfl (by decide) rfl) rfl rfl rfl ?_
    refine AOps.read (ARead.load tabOk rfl rfl rfl (by repeat (first | exact Has.head _ | apply Has.tail)) (by first | decide | omega) rfl rfl) rfl rfl rfl ?_
    refine AOps.pcall (rCheckOp_ok _) rfl (by first | exact .inr ⟨rfl, rfl, rfl⟩ | exact .inl rfl) rfl rfl rfl rfl (fun N hN => ?_)
    refine AOps.read (ARead.assign rfl rfl) rfl rfl rfl ?_
    refine AOps.nil (hK13 _ _ _ ?_); clear hK13 K13
    refine AWp.keep [0, 3, 4, 5, 6, 7, 8] rfl ?_
    refine AWp.regK fun K14 hK14 => ?_
    refine AOps.read (ARead.move rfl rfl) rfl rfl rfl ?_
    refine AOps.read (ARead.binOp rfl rfl rfl rfl) rfl rfl rfl ?_
    refine AOps.nil (hK14 _ _ _ ?_); clear hK14 K14
    refine AWp.keep [0, 3, 4, 5, 6, 7, 8, 17] rfl ?_
    refine AWp.cond rfl (fun hb15 => ?_) (fun hb15 => ?_)
    · have hc15 := hb15; clear hb15; try simp only [decide_eq_true_eq, decide_eq_false_iff_not, Bool.not_eq_true, Bool.not_eq_false, Int.not_lt, Int.not_le, Bool.not_eq_true', Bool.not_eq_false'] at hc15
      refine AWp.regK fun K16 hK16 => ?_
      refine AOps.read (ARead.move rfl rfl) rfl rfl rfl ?_
      refine AOps.read (ARead.assign rfl rfl) rfl rfl rfl ?_
      refine AOps.nil (hK16 _ _ _ ?_); clear hK16 K16
      refine AWp.keep [2] rfl ?_
      refine AWp.ret ?_
      refine ⟨Or.inr rfl, _, (.tmp _ _ _ _ rfl .nil), ?_⟩
      (try clear hK16 K16); (try clear hK15 K15); (try clear hK14 K14); (try clear hK13 K13); (try clear hK12 K12); (try clear hK11 K11); (try clear hK10 K10); (try clear hK9 K9); (try clear hK8 K8); (try clear hK7 K7); (try clear hK6 K6); (try clear hK5 K5); (try clear hK4 K4); (try clear hK3 K3); (try clear hK2 K2); (try clear hK1 K1)
      show packR _ = _
      simp only [packR]; rw [← hg2]; all_goals first | (rw [if_pos (by simpa using hc15)] <;> rfl) | (rw [if_neg (by simpa using hc15), if_pos (by simpa using hc19)] <;> rfl) | (rw [if_neg (by simpa using hc15), if_neg (by simpa using hc19), if_pos hs] <;> rfl)
    · have hc15 := hb15; clear hb15; try simp only [decide_eq_true_eq, decide_eq_false_iff_not, Bool.not_eq_true, Bool.not_eq_false, Int.not_lt, Int.not_le, Bool.not_eq_true', Bool.not_eq_false'] at hc15
      refine AWp.skip (hK12 _ _ _ ?_); try clear hK12 K12
      refine AWp.keep [0, 3, 4, 6, 7, 8] rfl ?_
      refine AWp.seqK fun K17 hK17 => ?_
      refine AWp.regK fun K18 hK18 => ?_
      refine AOps.read (ARead.fieldAddr tabOk rfl rfl rfl rfl (by decide) rfl) rfl rfl rfl ?_
      refine AOps.read (ARead.load tabOk rfl rfl rfl (by repeat (first | exact Has.head _ | apply Has.tail)) (by first | decide | omega) rfl rfl) rfl rfl rfl ?_
      refine AOps.pcall (rWrites_ok _) rfl (by first | exact .inr ⟨rfl, rfl, rfl⟩ | exact .inl rfl) rfl rfl rfl rfl (fun N hN => ?_)
      refine AOps.read (ARead.unOp rfl rfl rfl) rfl rfl rfl ?_
      refine AOps.nil (hK18 _ _ _ ?_); clear hK18 K18
      refine AWp.keep [0, 3, 4, 6, 7, 8, 22] rfl ?_
      refine AWp.cond rfl (fun hb19 => ?_) (fun hb19 => ?_)
      · have hc19 := hb19; clear hb19; try simp only [decide_eq_true_eq, decide_eq_false_iff_not, Bool.not_eq_true, Bool.not_eq_false, Int.not_lt, Int.not_le, Bool.not_eq_true', Bool.not_eq_false'] at hc19
        refine AWp.regK fun K20 hK20 => ?_
        refine AOps.read (ARead.assign rfl rfl) rfl rfl rfl ?_
        refine AOps.nil (hK20 _ _ _ ?_); clear hK20 K20
        refine AWp.keep [2] rfl ?_
        refine AWp.ret ?_
        refine ⟨Or.inr rfl, _, (.tmp _ _ _ _ rfl .nil), ?_⟩
        (try clear hK20 K20); (try clear hK19 K19); (try clear hK18 K18); (try clear hK17 K17); (try clear hK16 K16); (try clear hK15 K15); (try clear hK14 K14); (try clear hK13 K13); (try clear hK12 K12); (try clear hK11 K11); (try clear hK10 K10); (try clear hK9 K9); (try clear hK8 K8); (try clear hK7 K7); (try clear hK6 K6); (try clear hK5 K5); (try clear hK4 K4); (try clear hK3 K3); (try clear hK2 K2); (try clear hK1 K1)
        show packR _ = _
        simp only [packR]; rw [← hg2]; all_goals first | (rw [if_pos (by simpa using hc15)] <;> rfl) | (rw [if_neg (by simpa using hc15), if_pos (by simpa using hc19)] <;> rfl) | (rw [if_neg (by simpa using hc15), if_neg (by simpa using hc19), if_pos hs] <;> rfl)
      · have hc19 := hb19; clear hb19; try simp only [decide_eq_true_eq, decide_eq_false_iff_not, Bool.not_eq_true, Bool.not_eq_false, Int.not_lt, Int.not_le, Bool.not_eq_true', Bool.not_eq_false'] at hc19
        refine AWp.skip (hK17 _ _ _ ?_); try clear hK17 K17
        refine AWp.keep [0, 3, 4, 6, 7, 8] rfl ?_
        refine AWp.drawnK mixed (take_all _) fun K21 hK21 => ?_
        refine AAny.take 0 (ARead.move rfl rfl) rfl (by kernel_rfl) (by kernel_rfl) (by kernel_rfl) rfl rfl rfl ?_
        refine AAny.take 1 (ARead.binOp rfl rfl rfl rfl) rfl (by kernel_rfl) (by kernel_rfl) (by kernel_rfl) rfl rfl rfl ?_
        refine AAny.keep [0, 3, 4, 24] [0, 3, 4, 6, 7, 8, 24] rfl rfl ?_
        refine AAny.take 2 (ARead.move rfl rfl) rfl (by kernel_rfl) (by kernel_rfl) (by kernel_rfl) rfl rfl rfl ?_
        refine AAny.gtake 3 rfl rfl rfl rfl rfl (.cons 0 _ _ _ rfl (by first | exact .strip _ _ id | (refine .strip _ _ (fun h => ?_); simp_all; done) | exact .same _) .nil) (fun hG => ARead.move rfl rfl) rfl (by kernel_rfl) (by kernel_rfl) (by kernel_rfl) rfl rfl ?_
        refine AAny.gtake 4 rfl rfl rfl rfl rfl (.cons 3 _ _ _ rfl (by first | exact .strip _ _ id | (refine .strip _ _ (fun h => ?_); simp_all; done) | exact .same _) .nil) (fun hG => ARead.move rfl rfl) rfl (by kernel_rfl) (by kernel_rfl) (by kernel_rfl) rfl rfl ?_
        refine AAny.keep [4, 25, 26, 27] [0, 4, 6, 7, 8, 25, 26, 27] rfl rfl ?_
        first | refine AAny.gtake 5 rfl rfl rfl rfl rfl (.cons 27 _ _ _ rfl (by first | exact .strip _ _ id | (refine .strip _ _ (fun h => ?_); simp_all; done) | exact .same _) .nil) (fun hG => ARead.binW rfl rfl rfl rfl (i64_ok (by first | omega | (simp at hG; omega)) (by first | omega | (simp at hG; omega)))) rfl (by kernel_rfl) (by kernel_rfl) (by kernel_rfl) rfl rfl ?_ | refine AAny.gtake 5 rfl rfl rfl rfl rfl (.cons 27 _ _ _ rfl (by first | exact .strip _ _ id | (refine .strip _ _ (fun h => ?_); simp_all; done) | exact .same _) .nil) (fun hG => ARead.binOp rfl rfl rfl rfl) rfl (by kernel_rfl) (by kernel_rfl) (by kernel_rfl) rfl rfl ?_
        refine AAny.gtake 6 rfl rfl rfl rfl rfl (.cons 26 _ _ _ rfl (by first | exact .strip _ _ id | (refine .strip _ _ (fun h => ?_); simp_all; done) | exact .same _) (.cons 28 _ _ _ rfl (by first | exact .strip _ _ id | (refine .strip _ _ (fun h => ?_); simp_all; done) | exact .same _) .nil)) (fun hG => ARead.indexAddrF tabOk rfl rfl rfl rfl rfl rfl rfl (by first | omega | (simp at hG; omega)) (by first | omega | (simp at hG; omega))) rfl (by kernel_rfl) (by kernel_rfl) (by kernel_rfl) rfl rfl ?_
        refine AAny.gtake 7 rfl rfl rfl rfl rfl (.cons 29 _ _ _ rfl (by first | exact .strip _ _ id | (refine .strip _ _ (fun h => ?_); simp_all; done) | exact .same _) .nil) (fun hG => ARead.fieldAddrF tabOk rfl rfl rfl rfl (by decide) rfl) rfl (by kernel_rfl) (by kernel_rfl) (by kernel_rfl) rfl rfl ?_
        refine AAny.keep [4, 25, 30] [0, 4, 6, 7, 8, 25, 30] rfl rfl ?_
        refine AAny.gtake 8 rfl rfl rfl rfl rfl (.cons 30 _ _ _ rfl (by first | exact .strip _ _ id | (refine .strip _ _ (fun h => ?_); simp_all; done) | exact .same _) .nil) (fun hG => ARead.loadF tabOk rfl rfl rfl rfl) rfl (by kernel_rfl) (by kernel_rfl) (by kernel_rfl) rfl rfl ?_
        refine AAny.gtake 9 rfl rfl rfl rfl rfl (.cons 4 _ _ _ rfl (by first | exact .strip _ _ id | (refine .strip _ _ (fun h => ?_); simp_all; done) | exact .same _) .nil) (fun hG => ARead.fieldAddr tabOk rfl rfl rfl rfl (by decide) rfl) rfl (by kernel_rfl) (by kernel_rfl) (by kernel_rfl) rfl rfl ?_
        refine AAny.gtake 10 rfl rfl rfl rfl rfl (.cons 32 _ _ _ rfl (by first | exact .strip _ _ id | (refine .strip _ _ (fun h => ?_); simp_all; done) | exact .same _) .nil) (fun hG => ARead.load tabOk rfl rfl rfl (by repeat (first | exact Has.head _ | apply Has.tail)) (by first | decide | omega) rfl rfl) rfl (by kernel_rfl) (by kernel_rfl) (by kernel_rfl) rfl rfl ?_
        refine AAny.keep [25, 31, 33] [0, 6, 7, 8, 25, 31, 33] rfl rfl ?_
        refine AAny.gtake 11 rfl rfl rfl rfl rfl (.cons 31 _ _ _ rfl (by first | exact .strip _ _ id | (refine .strip _ _ (fun h => ?_); simp_all; done) | exact .same _) (.cons 33 _ _ _ rfl (by first | exact .strip _ _ id | (refine .strip _ _ (fun h => ?_); simp_all; done) | exact .same _) .nil)) (fun hG => ARead.binOp rfl rfl rfl rfl) rfl (by kernel_rfl) (by kernel_rfl) (by kernel_rfl) rfl rfl ?_
        first | refine AAny.take 12 (ARead.pickB rfl rfl rfl (by first | exact .strip _ _ id | (refine .strip _ _ (fun h => ?_); simp_all; done) | exact .same _) rfl (by first | exact .strip _ _ id | (refine .strip _ _ (fun h => ?_); simp_all; done) | exact .same _)) rfl (by kernel_rfl) (by kernel_rfl) (by kernel_rfl) rfl rfl rfl ?_ | refine AAny.take 12 (ARead.pick rfl rfl rfl) rfl (by kernel_rfl) (by kernel_rfl) (by kernel_rfl) rfl rfl rfl ?_
        refine AAny.done (by kernel_rfl) (hK21 _ _ _ ?_); clear hK21 K21
        try refine AWp.nilApp ?_
        refine AWp.keep [0, 6, 7, 8, 35] rfl ?_
        refine AWp.cond rfl (fun hb22 => ?_) (fun hb22 => ?_)
        · have hc22 := hb22; clear hb22; try simp only [decide_eq_true_eq, decide_eq_false_iff_not, Bool.not_eq_true, Bool.not_eq_false, Int.not_lt, Int.not_le, Bool.not_eq_true', Bool.not_eq_false'] at hc22
          simp only [Int.toNat_natCast, e] at hc22
          have hs := seqStep (l := l) (x := x) hc22
          refine AWp.regK fun K23 hK23 => ?_
          refine AOps.read (ARead.assign rfl rfl) rfl rfl rfl ?_
          refine AOps.nil (hK23 _ _ _ ?_); clear hK23 K23
          refine AWp.keep [2] rfl ?_
          refine AWp.ret ?_
          refine ⟨Or.inr rfl, _, (.tmp _ _ _ _ rfl .nil), ?_⟩
          (try clear hK23 K23); (try clear hK22 K22); (try clear hK21 K21); (try clear hK20 K20); (try clear hK19 K19); (try clear hK18 K18); (try clear hK17 K17); (try clear hK16 K16); (try clear hK15 K15); (try clear hK14 K14); (try clear hK13 K13); (try clear hK12 K12); (try clear hK11 K11); (try clear hK10 K10); (try clear hK9 K9); (try clear hK8 K8); (try clear hK7 K7); (try clear hK6 K6); (try clear hK5 K5); (try clear hK4 K4); (try clear hK3 K3); (try clear hK2 K2); (try clear hK1 K1)
          show packR _ = _
          simp only [packR]; rw [← hg2]; all_goals first | (rw [if_pos (by simpa using hc15)] <;> rfl) | (rw [if_neg (by simpa using hc15), if_pos (by simpa using hc19)] <;> rfl) | (rw [if_neg (by simpa using hc15), if_neg (by simpa using hc19), if_pos hs] <;> rfl)
        · have hc22 := hb22; clear hb22; try simp only [decide_eq_true_eq, decide_eq_false_iff_not, Bool.not_eq_true, Bool.not_eq_false, Int.not_lt, Int.not_le, Bool.not_eq_true', Bool.not_eq_false'] at hc22
          simp only [Int.toNat_natCast, e] at hc22
          have hs := seqStep (l := l) (x := x) hc22
          refine AWp.skip (hK9 _ _ _ ?_); try clear hK9 K9
          refine AWp.keep [0, 6, 7, 8] rfl ?_
          refine AWp.region ?_
          first | refine AOps.read (ARead.binW rfl rfl rfl rfl (i64_ok (by omega) (by omega))) rfl rfl rfl ?_ | refine AOps.read (ARead.binOp rfl rfl rfl rfl) rfl rfl rfl ?_
          refine AOps.read (ARead.move rfl rfl) rfl rfl rfl ?_
          (try clear hK23 K23); (try clear hK22 K22); (try clear hK21 K21); (try clear hK20 K20); (try clear hK19 K19); (try clear hK18 K18); (try clear hK17 K17); (try clear hK16 K16); (try clear hK15 K15); (try clear hK14 K14); (try clear hK13 K13); (try clear hK12 K12); (try clear hK11 K11); (try clear hK10 K10); (try clear hK9 K9); (try clear hK8 K8); (try clear hK7 K7); (try clear hK6 K6); (try clear hK4 K4); (try clear hK3 K3); (try clear hK2 K2); (try clear hK1 K1)
          refine AOps.nil (hK5 _ _ _ (x + 1) _ (by rfl) (.nil _) (by rw [lastSeq_succ]; refine ⟨by omega, ?_⟩; rw [← hg2, if_neg (by simpa using hc15), if_neg (by simpa using hc19), if_neg (by rw [hs]; exact Bool.false_ne_true)]) (by omega))
  · have hc8 := hb8; clear hb8; try simp only [decide_eq_true_eq, decide_eq_false_iff_not, Bool.not_eq_true, Bool.not_eq_false, Int.not_lt, Int.not_le, Bool.not_eq_true', Bool.not_eq_false'] at hc8
    rw [List.drop_of_length_le (by omega)] at hg2
    simp only [bufCheckF] at hg2
    refine AWp.exit (Or.inl ⟨rfl, (hK2 _ _ _ ?_)⟩); try clear hK2 K2
    refine AWp.keep [] rfl ?_
    refine AWp.regK fun K24 hK24 => ?_
    refine AOps.read (ARead.assign rfl rfl) rfl rfl rfl ?_
    refine AOps.nil (hK24 _ _ _ ?_); clear hK24 K24
    refine AWp.keep [2] rfl ?_
    refine AWp.ret ?_
    refine ⟨Or.inr rfl, _, (.tmp _ _ _ _ rfl .nil), ?_⟩
    (try clear hK24 K24); (try clear hK23 K23); (try clear hK22 K22); (try clear hK21 K21); (try clear hK20 K20); (try clear hK19 K19); (try clear hK18 K18); (try clear hK17 K17); (try clear hK16 K16); (try clear hK15 K15); (try clear hK14 K14); (try clear hK13 K13); (try clear hK12 K12); (try clear hK11 K11); (try clear hK10 K10); (try clear hK9 K9); (try clear hK8 K8); (try clear hK7 K7); (try clear hK6 K6); (try clear hK5 K5); (try clear hK4 K4); (try clear hK3 K3); (try clear hK2 K2); (try clear hK1 K1)
    show packR _ = _
    simp only [packR]; rw [← hg2]; all_goals first | (rw [if_pos (by simpa using hc15)] <;> rfl) | (rw [if_neg (by simpa using hc15), if_pos (by simpa using hc19)] <;> rfl) | (rw [if_neg (by simpa using hc15), if_neg (by simpa using hc19), if_pos hs] <;> rfl)

theorem rRange_ok (nil : Bool) (l : List Str) (i : Int) (h0 : 0 ≤ i) (h1 : i ≤ l.length) (hl : l.length ≤ 1073741824) : APure Try.prog 16 [strs nil l, vi i] (.agg [vs (boundLo l i), vs (boundHi l i)]) := by
  refine APure.intro fun N0 => ?_
  refine ACall.of_body tabOk (tab := tab) (fn := Try.f16) Try.func16 (by kernel_rfl) rfl (by simp [Try.f16]) ?_
  show AWp Try.prog 25 _ N0 [(0, strs nil l), (1, vi i)] [] _
  refine AWp.regK fun K1 hK1 => ?_
  refine AOps.op1 (AOp.alloc tabOk rfl rfl rfl) rfl rfl rfl ?_
  refine AOps.nil (hK1 _ _ _ ?_); clear hK1 K1
  refine AWp.keep [0, 1, 4] rfl ?_
  refine AWp.regK fun K2 hK2 => ?_
  refine AOps.read (ARead.build tabOk rfl rfl rfl rfl rfl rfl rfl) rfl rfl rfl ?_
  refine AOps.op1 (AOp.alloc tabOk rfl rfl rfl) rfl rfl rfl ?_
  first | refine AOps.op10 (AOp.storeC tabOk rfl rfl rfl rfl (by repeat (first | exact Has.head _ | apply Has.tail)) rfl (Nat.le_of_ble_eq_true rfl) rfl) rfl rfl ?_ | refine AOps.op10 (AOp.store tabOk rfl rfl rfl rfl (by repeat (first | exact Has.head _ | apply Has.tail)) (by first | decide | omega) rfl (by decide) rfl) rfl rfl ?_
  refine AOps.nil (hK2 _ _ _ ?_); clear hK2 K2
  refine AWp.keep [0, 1, 4, 5] rfl ?_
  refine AWp.seqK fun K3 hK3 => ?_
  refine AWp.regK fun K4 hK4 => ?_
  refine AOps.read (ARead.move rfl rfl) rfl rfl rfl ?_
  refine AOps.read (ARead.binOp rfl rfl rfl rfl) rfl rfl rfl ?_
  refine AOps.nil (hK4 _ _ _ ?_); clear hK4 K4
  refine AWp.keep [0, 1, 4, 5, 8] rfl ?_
  refine AWp.cond rfl (fun hb5 => ?_) (fun hb5 => ?_)
  · have hc5 := hb5; clear hb5; try simp only [decide_eq_true_eq, decide_eq_false_iff_not, Bool.not_eq_true, Bool.not_eq_false, Int.not_lt, Int.not_le, Bool.not_eq_true', Bool.not_eq_false'] at hc5
    refine AWp.region ?_
    refine AOps.read (ARead.move rfl rfl) rfl rfl rfl ?_
    refine AOps.read (ARead.move rfl rfl) rfl rfl rfl ?_
    first | refine AOps.read (ARead.binW rfl rfl rfl rfl (i64_ok (by omega) (by omega))) rfl rfl rfl ?_ | refine AOps.read (ARead.binOp rfl rfl rfl rfl) rfl rfl rfl ?_
    refine AOps.read (ARead.indexAddrF tabOk rfl rfl rfl rfl rfl rfl rfl (by omega) (by omega)) rfl rfl rfl ?_
    refine AOps.keep [0, 1, 4, 5, 12] rfl ?_
    refine AOps.read (ARead.loadF tabOk rfl rfl rfl rfl) rfl rfl rfl ?_
    refine AOps.read (ARead.fieldAddr tabOk rfl rfl rfl rfl (by decide) rfl) rfl rfl rfl ?_
    first | refine AOps.op10 (AOp.storeC tabOk rfl rfl rfl rfl (by repeat (first | exact Has.head _ | apply Has.tail)) rfl (Nat.le_of_ble_eq_true rfl) rfl) rfl rfl ?_ | refine AOps.op10 (AOp.store tabOk rfl rfl rfl rfl (by repeat (first | exact Has.head _ | apply Has.tail)) (by first | decide | omega) rfl (by decide) rfl) rfl rfl ?_
    refine AOps.nil (hK3 _ _ _ ?_); try clear hK3 K3
    refine AWp.keep [0, 1, 4, 5] rfl ?_
    refine AWp.seqK fun K6 hK6 => ?_
    refine AWp.regK fun K7 hK7 => ?_
    refine AOps.read (ARead.move rfl rfl) rfl rfl rfl ?_
    refine AOps.read (ARead.move rfl rfl) rfl rfl rfl ?_
    refine AOps.read (ARead.lenSl tabOk rfl rfl rfl rfl rfl) rfl rfl rfl ?_
    refine AOps.read (ARead.binOp rfl rfl rfl rfl) rfl rfl rfl ?_
    refine AOps.nil (hK7 _ _ _ ?_); clear hK7 K7
    refine AWp.keep [0, 1, 4, 5, 18] rfl ?_
    refine AWp.cond rfl (fun hb8 => ?_) (fun hb8 => ?_)
    · have hc8 := hb8; clear hb8; try simp only [decide_eq_true_eq, decide_eq_false_iff_not, Bool.not_eq_true, Bool.not_eq_false, Int.not_lt, Int.not_le, Bool.not_eq_true', Bool.not_eq_false'] at hc8
      refine AWp.region ?_
      refine AOps.read (ARead.move rfl rfl) rfl rfl rfl ?_
      refine AOps.read (ARead.move rfl rfl) rfl rfl rfl ?_
      refine AOps.read (ARead.indexAddrF tabOk rfl rfl rfl rfl rfl rfl rfl (by omega) (by omega)) rfl rfl rfl ?_
      refine AOps.read (ARead.loadF tabOk rfl rfl rfl rfl) rfl rfl rfl ?_
      refine AOps.keep [4, 5, 22] rfl ?_
      refine AOps.read (ARead.fieldAddr tabOk rfl rfl rfl rfl (by decide) rfl) rfl rfl rfl ?_
      first | refine AOps.op10 (AOp.storeC tabOk rfl rfl rfl rfl (by repeat (first | exact Has.head _ | apply Has.tail)) rfl (Nat.le_of_ble_eq_true rfl) rfl) rfl rfl ?_ | refine AOps.op10 (AOp.store tabOk rfl rfl rfl rfl (by repeat (first | exact Has.head _ | apply Has.tail)) (by first | decide | omega) rfl (by decide) rfl) rfl rfl ?_
      refine AOps.nil (hK6 _ _ _ ?_); try clear hK6 K6
      refine AWp.keep [4, 5] rfl ?_
      refine AWp.regK fun K9 hK9 => ?_
      refine AOps.read (ARead.load tabOk rfl rfl rfl (by repeat (first | exact Has.head _ | apply Has.tail)) (by first | decide | omega) rfl rfl) rfl rfl rfl ?_
      first | refine AOps.op10 (AOp.storeC tabOk rfl rfl rfl rfl (by repeat (first | exact Has.head _ | apply Has.tail)) rfl (Nat.le_of_ble_eq_true rfl) rfl) rfl rfl ?_ | refine AOps.op10 (AOp.store tabOk rfl rfl rfl rfl (by repeat (first | exact Has.head _ | apply Has.tail)) (by first | decide | omega) rfl (by decide) rfl) rfl rfl ?_
      refine AOps.nil (hK9 _ _ _ ?_); clear hK9 K9
      refine AWp.keep [4] rfl ?_
      refine AWp.ret ?_
      refine ⟨Or.inr rfl, _, (.cell _ _ _ _ _ _ _ _ _ _ _ _ _ _ rfl (by repeat (first | exact Has.head _ | apply Has.tail)) (by decide) rfl rfl rfl .nil), ?_⟩
      (try clear hK9 K9); (try clear hK8 K8); (try clear hK7 K7); (try clear hK6 K6); (try clear hK5 K5); (try clear hK4 K4); (try clear hK3 K3); (try clear hK2 K2); (try clear hK1 K1)
      show packR _ = _
      simp_all [packR, boundLo, boundHi, setCells, acells, Z.fv] <;> (intros; omega)
    · have hc8 := hb8; clear hb8; try simp only [decide_eq_true_eq, decide_eq_false_iff_not, Bool.not_eq_true, Bool.not_eq_false, Int.not_lt, Int.not_le, Bool.not_eq_true', Bool.not_eq_false'] at hc8
      refine AWp.skip (hK6 _ _ _ ?_); try clear hK6 K6
      refine AWp.keep [4, 5] rfl ?_
      refine AWp.regK fun K10 hK10 => ?_
      refine AOps.read (ARead.load tabOk rfl rfl rfl (by repeat (first | exact Has.head _ | apply Has.tail)) (by first | decide | omega) rfl rfl) rfl rfl rfl ?_
      first | refine AOps.op10 (AOp.storeC tabOk rfl rfl rfl rfl (by repeat (first | exact Has.head _ | apply Has.tail)) rfl (Nat.le_of_ble_eq_true rfl) rfl) rfl rfl ?_ | refine AOps.op10 (AOp.store tabOk rfl rfl rfl rfl (by repeat (first | exact Has.head _ | apply Has.tail)) (by first | decide | omega) rfl (by decide) rfl) rfl rfl ?_
      refine AOps.nil (hK10 _ _ _ ?_); clear hK10 K10
      refine AWp.keep [4] rfl ?_
      refine AWp.ret ?_
      refine ⟨Or.inr rfl, _, (.cell _ _ _ _ _ _ _ _ _ _ _ _ _ _ rfl (by repeat (first | exact Has.head _ | apply Has.tail)) (by decide) rfl rfl rfl .nil), ?_⟩
      (try clear hK10 K10); (try clear hK9 K9); (try clear hK8 K8); (try clear hK7 K7); (try clear hK6 K6); (try clear hK5 K5); (try clear hK4 K4); (try clear hK3 K3); (try clear hK2 K2); (try clear hK1 K1)
      show packR _ = _
      simp_all [packR, boundLo, boundHi, setCells, acells, Z.fv] <;> (intros; omega)
  · have hc5 := hb5; clear hb5; try simp only [decide_eq_true_eq, decide_eq_false_iff_not, Bool.not_eq_true, Bool.not_eq_false, Int.not_lt, Int.not_le, Bool.not_eq_true', Bool.not_eq_false'] at hc5
    refine AWp.skip (hK3 _ _ _ ?_); try clear hK3 K3
    refine AWp.keep [0, 1, 4, 5] rfl ?_
    refine AWp.seqK fun K11 hK11 => ?_
    refine AWp.regK fun K12 hK12 => ?_
    refine AOps.read (ARead.move rfl rfl) rfl rfl rfl ?_
    refine AOps.read (ARead.move rfl rfl) rfl rfl rfl ?_
    refine AOps.read (ARead.lenSl tabOk rfl rfl rfl rfl rfl) rfl rfl rfl ?_
    refine AOps.read (ARead.binOp rfl rfl rfl rfl) rfl rfl rfl ?_
    refine AOps.nil (hK12 _ _ _ ?_); clear hK12 K12
    refine AWp.keep [0, 1, 4, 5, 18] rfl ?_
    refine AWp.cond rfl (fun hb13 => ?_) (fun hb13 => ?_)
    · have hc13 := hb13; clear hb13; try simp only [decide_eq_true_eq, decide_eq_false_iff_not, Bool.not_eq_true, Bool.not_eq_false, Int.not_lt, Int.not_le, Bool.not_eq_true', Bool.not_eq_false'] at hc13
      refine AWp.region ?_
      refine AOps.read (ARead.move rfl rfl) rfl rfl rfl ?_
      refine AOps.read (ARead.move rfl rfl) rfl rfl rfl ?_
      refine AOps.read (ARead.indexAddrF tabOk rfl rfl rfl rfl rfl rfl rfl (by omega) (by omega)) rfl rfl rfl ?_
      refine AOps.read (ARead.loadF tabOk rfl rfl rfl rfl) rfl rfl rfl ?_
      refine AOps.keep [4, 5, 22] rfl ?_
      refine AOps.read (ARead.fieldAddr tabOk rfl rfl rfl rfl (by decide) rfl) rfl rfl rfl ?_
      first | refine AOps.op10 (AOp.storeC tabOk rfl rfl rfl rfl (by repeat (first | exact Has.head _ | apply Has.tail)) rfl (Nat.le_of_ble_eq_true rfl) rfl) rfl rfl ?_ | refine AOps.op10 (AOp.store tabOk rfl rfl rfl rfl (by repeat (first | exact Has.head _ | apply Has.tail)) (by first | decide | omega) rfl (by decide) rfl) rfl rfl ?_
      refine AOps.nil (hK11 _ _ _ ?_); try clear hK11 K11
      refine AWp.keep [4, 5] rfl ?_
      refine AWp.regK fun K14 hK14 => ?_
      refine AOps.read (ARead.load tabOk rfl rfl rfl (by repeat (first | exact Has.head _ | apply Has.tail)) (by first | decide | omega) rfl rfl) rfl rfl rfl ?_
      first | refine AOps.op10 (AOp.storeC tabOk rfl rfl rfl rfl (by repeat (first | exact Has.head _ | apply Has.tail)) rfl (Nat.le_of_ble_eq_true rfl) rfl) rfl rfl ?_ | refine AOps.op10 (AOp.store tabOk rfl rfl rfl rfl (by repeat (first | exact Has.head _ | apply Has.tail)) (by first | decide | omega) rfl (by decide) rfl) rfl rfl ?_
      refine AOps.nil (hK14 _ _ _ ?_); clear hK14 K14
      refine AWp.keep [4] rfl ?_
      refine AWp.ret ?_
      refine ⟨Or.inr rfl, _, (.cell _ _ _ _ _ _ _ _ _ _ _ _ _ _ rfl (by repeat (first | exact Has.head _ | apply Has.tail)) (by decide) rfl rfl rfl .nil), ?_⟩
      (try clear hK14 K14); (try clear hK13 K13); (try clear hK12 K12); (try clear hK11 K11); (try clear hK10 K10); (try clear hK9 K9); (try clear hK8 K8); (try clear hK7 K7); (try clear hK6 K6); (try clear hK5 K5); (try clear hK4 K4); (try clear hK3 K3); (try clear hK2 K2); (try clear hK1 K1)
      show packR _ = _
      simp_all [packR, boundLo, boundHi, setCells, acells, Z.fv] <;> (intros; omega)
    · have hc13 := hb13; clear hb13; try simp only [decide_eq_true_eq, decide_eq_false_iff_not, Bool.not_eq_true, Bool.not_eq_false, Int.not_lt, Int.not_le, Bool.not_eq_true', Bool.not_eq_false'] at hc13
      refine AWp.skip (hK11 _ _ _ ?_); try clear hK11 K11
      refine AWp.keep [4, 5] rfl ?_
      refine AWp.regK fun K15 hK15 => ?_
      refine AOps.read (ARead.load tabOk rfl rfl rfl (by repeat (first | exact Has.head _ | apply Has.tail)) (by first | decide | omega) rfl rfl) rfl rfl rfl ?_
      first | refine AOps.op10 (AOp.storeC tabOk rfl rfl rfl rfl (by repeat (first | exact Has.head _ | apply Has.tail)) rfl (Nat.le_of_ble_eq_true rfl) rfl) rfl rfl ?_ | refine AOps.op10 (AOp.store tabOk rfl rfl rfl rfl (by repeat (first | exact Has.head _ | apply Has.tail)) (by first | decide | omega) rfl (by decide) rfl) rfl rfl ?_
      refine AOps.nil (hK15 _ _ _ ?_); clear hK15 K15
      refine AWp.keep [4] rfl ?_
      refine AWp.ret ?_
      refine ⟨Or.inr rfl, _, (.cell _ _ _ _ _ _ _ _ _ _ _ _ _ _ rfl (by repeat (first | exact Has.head _ | apply Has.tail)) (by decide) rfl rfl rfl .nil), ?_⟩
      (try clear hK15 K15); (try clear hK14 K14); (try clear hK13 K13); (try clear hK12 K12); (try clear hK11 K11); (try clear hK10 K10); (try clear hK9 K9); (try clear hK8 K8); (try clear hK7 K7); (try clear hK6 K6); (try clear hK5 K5); (try clear hK4 K4); (try clear hK3 K3); (try clear hK2 K2); (try clear hK1 K1)
      show packR _ = _
      simp_all [packR, boundLo, boundHi, setCells, acells, Z.fv] <;> (intros; omega)

end Go.Sl

/- Walks of the references 01 and 13: numbers and texts as bytes, Child. No condition beside those in the statements. -/
namespace Go.Sl
open Go Go.Proofs 
set_option linter.unusedVariables false
set_option linter.unusedSimpArgs false
set_option maxRecDepth 20000
set_option maxHeartbeats 400000
theorem remB (n : Nat) : IntKind.u8.wrap ((n : Int).tmod 128) = ((n % 128 : Nat) : Int) := by
  have : (n : Int).tmod 128 = ((n % 128 : Nat) : Int) := by rw [Int.tmod_eq_emod_of_nonneg (by omega)]; rfl
  rw [this, wrap8]; omega
theorem byteAdd (n : Nat) : ((n % 128 : Nat) : Int) + 128 = ((UInt8.ofNat (n % 128 + 128)).toNat : Int) := by
  rw [UInt8.toNat_ofNat']; omega
theorem byteWrap (b : UInt8) : IntKind.u8.wrap (b.toNat : Int) = (b.toNat : Int) := u8_ok (by omega) (by have := b.toNat_lt; omega)
theorem quoB {n : Nat} (h : n < 18446744073709551616) : IntKind.u64.wrap ((n : Int).tdiv 128) = ((n / 128 : Nat) : Int) := by
  have : (n : Int).tdiv 128 = ((n / 128 : Nat) : Int) := by rw [Int.tdiv_eq_ediv_of_nonneg (by omega)]; rfl
  rw [this]; exact u64_ok (by omega) (by omega)
abbrev RNum (n : Nat) : Prop := ∀ N, ACall Try.prog 135 [.fv (.int .u64 n)] N [] fun _ r H' => GivesB (numF n) r H'

theorem rNum_step (n : Nat) (hn : n < 18446744073709551616) (ih : 128 ≤ n → RNum (n / 128)) (N0 : Nat) : ACall Try.prog 135 [.fv (.int .u64 n)] N0 [] (fun _ r H' => ∃ H1 Hx, Take H1 H' Hx ∧ GivesB (numF n) r H1) := by
  refine ACall.of_body tabOk (tab := tab) (fn := Try.f135) Try.func135 (by kernel_rfl) rfl (by simp [Try.f135]) ?_
  show AWp Try.prog 17 _ N0 [(0, .fv (.int .u64 n))] [] _
  refine AWp.regK fun K1 hK1 => ?_
  refine AOps.read (ARead.assign rfl rfl) rfl rfl rfl ?_
  refine AOps.nil (hK1 _ _ _ ?_); clear hK1 K1
  refine AWp.keep [0] rfl ?_
  refine AWp.seqK fun K2 hK2 => ?_
  refine AWp.regK fun K3 hK3 => ?_
  refine AOps.read (ARead.move rfl rfl) rfl rfl rfl ?_
  refine AOps.read (ARead.binOp rfl rfl rfl rfl) rfl rfl rfl ?_
  refine AOps.nil (hK3 _ _ _ ?_); clear hK3 K3
  refine AWp.keep [0, 4] rfl ?_
  refine AWp.cond rfl (fun hb4 => ?_) (fun hb4 => ?_)
  · have hc4 := hb4; clear hb4; try simp only [decide_eq_true_eq, decide_eq_false_iff_not, Bool.not_eq_true, Bool.not_eq_false, Int.not_lt, Int.not_le, Bool.not_eq_true', Bool.not_eq_false'] at hc4
    rw [numF_small (by omega)]
    refine AWp.regK fun K5 hK5 => ?_
    refine AOps.read (ARead.move rfl rfl) rfl rfl rfl ?_
    refine AOps.read (ARead.convW (r := ((UInt8.ofNat n).toNat : Int)) tabOk rfl rfl rfl rfl rfl rfl (lowB (by omega))) rfl rfl rfl ?_
    refine AOps.op1 (AOp.buildSliceC tabOk rfl rfl rfl rfl rfl rfl rfl rfl rfl (by decide) (by decide)) rfl rfl rfl ?_
    refine AOps.ghost (Ghost.closeRow (els := bytesA [UInt8.ofNat n]) [7] ⟨rfl, trivial⟩ (by repeat (first | exact Has.head _ | apply Has.tail)) rfl (by decide) (by decide) (by decide) (by intro i hi; obtain rfl : i = 0 := (by omega); rfl) ?_)
    refine AOps.read (ARead.assign rfl rfl) rfl rfl rfl ?_
    refine AOps.nil (hK5 _ _ _ ?_); clear hK5 K5
    refine AWp.keep [2] rfl ?_
    refine AWp.ret ?_
    refine ⟨Or.inr rfl, _, (.tmp _ _ _ _ rfl .nil), ?_⟩
    (try clear hK5 K5); (try clear hK4 K4); (try clear hK3 K3); (try clear hK2 K2); (try clear hK1 K1)
    exact ⟨_, _, .cons _ _ _ _ _ _ (.head _) (.nil _), _, rfl, rfl⟩
  · have hc4 := hb4; clear hb4; try simp only [decide_eq_true_eq, decide_eq_false_iff_not, Bool.not_eq_true, Bool.not_eq_false, Int.not_lt, Int.not_le, Bool.not_eq_true', Bool.not_eq_false'] at hc4
    have hbig : [UInt8.ofNat (n % 128 + 128)] ++ numF (n / 128) = numF n := (numF_big (by omega)).symm
    refine AWp.skip (hK2 _ _ _ ?_); try clear hK2 K2
    refine AWp.keep [0] rfl ?_
    refine AWp.regK fun K6 hK6 => ?_
    refine AOps.read (ARead.move rfl rfl) rfl rfl rfl ?_
    refine AOps.read (ARead.rem rfl rfl rfl (by decide)) rfl rfl rfl ?_
    refine AOps.read (ARead.convW (r := ((n % 128 : Nat) : Int)) tabOk rfl rfl rfl rfl rfl rfl (remB n)) rfl rfl rfl ?_
    refine AOps.read (ARead.binW (r := ((UInt8.ofNat (n % 128 + 128)).toNat : Int)) rfl rfl rfl (congrArg some (byteAdd n)) (byteWrap _)) rfl rfl rfl ?_
    refine AOps.keep [0, 11] rfl ?_
    refine AOps.op1 (AOp.buildSliceC tabOk rfl rfl rfl rfl rfl rfl rfl rfl rfl (by decide) (by decide)) rfl rfl rfl ?_
    refine AOps.ghost (Ghost.closeRow (els := bytesA [UInt8.ofNat (n % 128 + 128)]) [12] ⟨rfl, trivial⟩ (by repeat (first | exact Has.head _ | apply Has.tail)) rfl (by decide) (by decide) (by decide) (by intro i hi; obtain rfl : i = 0 := (by omega); rfl) ?_)
    refine AOps.read (ARead.move rfl rfl) rfl rfl rfl ?_
    refine AOps.read ((show ARead _ _ _ _ _ _ (.fv (.int .u64 ((n / 128 : Nat) : Int))) from by rw [← quoB hn]; exact ARead.quo rfl rfl rfl (by decide))) rfl rfl rfl ?_
    refine AOps.op ((AOp.call rfl (.inr ⟨rfl, rfl, rfl⟩) rfl (ih (by omega) _)).frame (.nil _)) rfl rfl rfl ?_
    rintro N1 r1 H1 hN1 ⟨H1x, ⟨m1, rfl, rfl⟩, rfl⟩
    refine AOps.keep [12, 15] rfl ?_
    refine AOps.op1 (AOp.append tabOk (els' := bytesA (numF n)) (nil' := false) rfl rfl rfl rfl rfl rfl rfl rfl (by repeat (first | exact Has.head _ | apply Has.tail)) (by first | exact .fv _ _ _ rfl | exact .row _ _ _ _ rfl (by repeat (first | exact Has.head _ | apply Has.tail)) | exact .flat _ _ _ _ _ _ rfl (by repeat (first | exact Has.head _ | apply Has.tail)) (by first | decide | omega) | exact .arr _ _ _ _ _ _ _ _ rfl (by repeat (first | exact Has.head _ | apply Has.tail)) (by first | decide | omega) | exact .sl0 _ rfl) (by first | rfl | simp [AV.one]) (by have := (numF_len 9 (n / 128) (by omega)).2; simp only [bytesA, List.length_map, List.length_cons, List.length_nil]; omega) ((bytesA_app [_] _).trans (congrArg bytesA hbig)) rfl) rfl rfl rfl ?_
    refine AOps.read (ARead.assign rfl rfl) rfl rfl rfl ?_
    refine AOps.nil (hK6 _ _ _ ?_); clear hK6 K6
    refine AWp.keep [2] rfl ?_
    refine AWp.ret ?_
    refine ⟨Or.inr rfl, _, (.tmp _ _ _ _ rfl .nil), ?_⟩
    (try clear hK6 K6); (try clear hK5 K5); (try clear hK4 K4); (try clear hK3 K3); (try clear hK2 K2); (try clear hK1 K1)
    exact ⟨_, _, .cons _ _ _ _ _ _ (.head _) (.nil _), _, rfl, rfl⟩

theorem rNum_all : ∀ n : Nat, n < 18446744073709551616 → RNum n := by
  intro n
  induction n using Nat.strongRecOn with
  | ind n ih => exact fun hn N => ACall.forget (rNum_step n hn (fun h => ih (n / 128) (by omega) (by omega)) N)
theorem rNum_int (k : Int) (h0 : 0 ≤ k) (h1 : k < 18446744073709551616) (N : Nat) : ACall Try.prog 135 [.fv (.int .u64 k)] N [] fun _ r H' => GivesB (numF k.toNat) r H' := by
  have := rNum_all k.toNat (by omega) N
  rwa [Int.toNat_of_nonneg h0] at this

theorem rText_ok (s : Str) (hs : s.length ≤ 1073741800) (N0 : Nat) : ACall Try.prog 163 [vs s] N0 [] (fun _ r H' => ∃ H1 Hx, Take H1 H' Hx ∧ GivesB (textF s) r H1) := by
  refine ACall.of_body tabOk (tab := tab) (fn := Try.f163) Try.func163 (by kernel_rfl) rfl (by simp [Try.f163]) ?_
  show AWp Try.prog 9 _ N0 [(0, vs s)] [] _
  refine AWp.regK fun K1 hK1 => ?_
  refine AOps.read (ARead.assign rfl rfl) rfl rfl rfl ?_
  refine AOps.nil (hK1 _ _ _ ?_); clear hK1 K1
  refine AWp.keep [0] rfl ?_
  refine AWp.regK fun K2 hK2 => ?_
  refine AOps.read (ARead.move rfl rfl) rfl rfl rfl ?_
  refine AOps.read (ARead.lenStr tabOk rfl rfl rfl rfl) rfl rfl rfl ?_
  first | refine AOps.read (ARead.convW tabOk rfl rfl rfl rfl rfl rfl (u64_ok (by omega) (by omega))) rfl rfl rfl ?_ | refine AOps.read (ARead.convInt tabOk rfl rfl rfl rfl rfl rfl) rfl rfl rfl ?_
  refine AOps.op ((AOp.call rfl (.inr ⟨rfl, rfl, rfl⟩) rfl (rNum_all s.length (by omega) _)).frame (.nil _)) rfl rfl rfl ?_
  rintro N1 r1 H1 hN1 ⟨H1x, ⟨m1, rfl, rfl⟩, rfl⟩
  refine AOps.keep [0, 6] rfl ?_
  refine AOps.read (ARead.move rfl rfl) rfl rfl rfl ?_
  refine AOps.op1 (AOp.appendStr tabOk rfl rfl rfl rfl rfl rfl rfl rfl rfl rfl rfl (by repeat (first | exact Has.head _ | apply Has.tail)) rfl (by have := numF_short (n := s.length) (by omega); simp only [bytesA, List.length_map]; omega) (bytesA_app _ _) rfl) rfl rfl rfl ?_
  refine AOps.read (ARead.assign rfl rfl) rfl rfl rfl ?_
  refine AOps.nil (hK2 _ _ _ ?_); clear hK2 K2
  refine AWp.keep [2] rfl ?_
  refine AWp.ret ?_
  refine ⟨Or.inr rfl, _, (.tmp _ _ _ _ rfl .nil), ?_⟩
  (try clear hK2 K2); (try clear hK1 K1)
  exact ⟨_, _, .cons _ _ _ _ _ _ (.head _) (.nil _), _, rfl, rfl⟩

theorem rText_gives (s : Str) (hs : s.length ≤ 1073741800) (N : Nat) : ACall Try.prog 163 [vs s] N [] fun _ r H' => GivesB (textF s) r H' :=
  ACall.forget (rText_ok s hs N)

theorem rnum_ok (bs : List UInt8) (k : Int) (h0 : 0 ≤ k) (h1 : k < 9223372036854775808) (hb : bs.length + (numF k.toNat).length ≤ 1073741824) (m : Nat) (N0 : Nat) : ACall Try.prog 133 [.row m false (bytesA bs).length, vi k] N0 [(m, .row 1 false (bytesA bs))] (fun _ r H' => ∃ H1 Hx, Take H1 H' Hx ∧ GivesB (bs ++ numF k.toNat) r H1) := by
  refine ACall.of_body tabOk (tab := tab) (fn := Try.f133) Try.func133 (by kernel_rfl) rfl (by simp [Try.f133]) ?_
  show AWp Try.prog 10 _ N0 [(0, .row m false (bytesA bs).length), (1, vi k)] [(m, .row 1 false (bytesA bs))] _
  refine AWp.regK fun K1 hK1 => ?_
  refine AOps.read (ARead.assign rfl rfl) rfl rfl rfl ?_
  refine AOps.nil (hK1 _ _ _ ?_); clear hK1 K1
  refine AWp.keep [0, 1] rfl ?_
  refine AWp.regK fun K2 hK2 => ?_
  refine AOps.read (ARead.move rfl rfl) rfl rfl rfl ?_
  refine AOps.read (ARead.move rfl rfl) rfl rfl rfl ?_
  first | refine AOps.read (ARead.convW tabOk rfl rfl rfl rfl rfl rfl (u64_ok (by omega) (by omega))) rfl rfl rfl ?_ | refine AOps.read (ARead.convInt tabOk rfl rfl rfl rfl rfl rfl) rfl rfl rfl ?_
  refine AOps.op ((AOp.call rfl (.inr ⟨rfl, rfl, rfl⟩) rfl (rNum_int k h0 (by omega) _)).frame (.nil _)) rfl rfl rfl ?_
  rintro N1 r1 H1 hN1 ⟨H1x, ⟨m1, rfl, rfl⟩, rfl⟩
  refine AOps.keep [5, 8] rfl ?_
  refine AOps.op1 (AOp.append tabOk (els' := bytesA (bs ++ numF k.toNat)) (nil' := false) rfl rfl rfl rfl rfl rfl rfl rfl (by repeat (first | exact Has.head _ | apply Has.tail)) (by first | exact .fv _ _ _ rfl | exact .row _ _ _ _ rfl (by repeat (first | exact Has.head _ | apply Has.tail)) | exact .flat _ _ _ _ _ _ rfl (by repeat (first | exact Has.head _ | apply Has.tail)) (by first | decide | omega) | exact .arr _ _ _ _ _ _ _ _ rfl (by repeat (first | exact Has.head _ | apply Has.tail)) (by first | decide | omega) | exact .sl0 _ rfl) (by first | rfl | simp [AV.one]) (by simp only [bytesA, List.length_map]; omega) (bytesA_app _ _) rfl) rfl rfl rfl ?_
  refine AOps.read (ARead.assign rfl rfl) rfl rfl rfl ?_
  refine AOps.nil (hK2 _ _ _ ?_); clear hK2 K2
  refine AWp.keep [4] rfl ?_
  refine AWp.ret ?_
  refine ⟨Or.inr rfl, _, (.tmp _ _ _ _ rfl .nil), ?_⟩
  (try clear hK2 K2); (try clear hK1 K1)
  exact ⟨_, _, .cons _ _ _ _ _ _ (.head _) (.nil _), _, rfl, rfl⟩

theorem rtext_ok (bs : List UInt8) (s : Str) (hs : s.length ≤ 1048576) (hb : bs.length + (textF s).length ≤ 1073741824) (m : Nat) (N0 : Nat) : ACall Try.prog 134 [.row m false (bytesA bs).length, vs s] N0 [(m, .row 1 false (bytesA bs))] (fun _ r H' => ∃ H1 Hx, Take H1 H' Hx ∧ GivesB (bs ++ textF s) r H1) := by
  refine ACall.of_body tabOk (tab := tab) (fn := Try.f134) Try.func134 (by kernel_rfl) rfl (by simp [Try.f134]) ?_
  show AWp Try.prog 9 _ N0 [(0, .row m false (bytesA bs).length), (1, vs s)] [(m, .row 1 false (bytesA bs))] _
  refine AWp.regK fun K1 hK1 => ?_
  refine AOps.read (ARead.assign rfl rfl) rfl rfl rfl ?_
  refine AOps.nil (hK1 _ _ _ ?_); clear hK1 K1
  refine AWp.keep [0, 1] rfl ?_
  refine AWp.regK fun K2 hK2 => ?_
  refine AOps.read (ARead.move rfl rfl) rfl rfl rfl ?_
  refine AOps.read (ARead.move rfl rfl) rfl rfl rfl ?_
  refine AOps.op ((AOp.call rfl (.inr ⟨rfl, rfl, rfl⟩) rfl (rText_gives s (Nat.le_trans hs (by decide)) _)).frame (.nil _)) rfl rfl rfl ?_
  rintro N1 r1 H1 hN1 ⟨H1x, ⟨m1, rfl, rfl⟩, rfl⟩
  refine AOps.op1 (AOp.append tabOk (els' := bytesA (bs ++ textF s)) (nil' := false) rfl rfl rfl rfl rfl rfl rfl rfl (by repeat (first | exact Has.head _ | apply Has.tail)) (by first | exact .fv _ _ _ rfl | exact .row _ _ _ _ rfl (by repeat (first | exact Has.head _ | apply Has.tail)) | exact .flat _ _ _ _ _ _ rfl (by repeat (first | exact Has.head _ | apply Has.tail)) (by first | decide | omega) | exact .arr _ _ _ _ _ _ _ _ rfl (by repeat (first | exact Has.head _ | apply Has.tail)) (by first | decide | omega) | exact .sl0 _ rfl) (by first | rfl | simp [AV.one]) (by simp only [bytesA, List.length_map]; omega) (bytesA_app _ _) rfl) rfl rfl rfl ?_
  refine AOps.keep [8] rfl ?_
  refine AOps.read (ARead.assign rfl rfl) rfl rfl rfl ?_
  refine AOps.nil (hK2 _ _ _ ?_); clear hK2 K2
  refine AWp.keep [4] rfl ?_
  refine AWp.ret ?_
  refine ⟨Or.inr rfl, _, (.tmp _ _ _ _ rfl .nil), ?_⟩
  (try clear hK2 K2); (try clear hK1 K1)
  exact ⟨_, _, .cons _ _ _ _ _ _ (.head _) (.nil _), _, rfl, rfl⟩

theorem rnum_gives (bs : List UInt8) (k : Int) (h0 : 0 ≤ k) (h1 : k < 9223372036854775808) (hb : bs.length + (numF k.toNat).length ≤ 1073741824) (m N : Nat) : ACall Try.prog 133 [.row m false (bytesA bs).length, vi k] N [(m, .row 1 false (bytesA bs))] fun _ r H' => GivesB (bs ++ numF k.toNat) r H' :=
  ACall.forget (rnum_ok bs k h0 h1 hb m N)
theorem rtext_gives (bs : List UInt8) (s : Str) (hs : s.length ≤ 1048576) (hb : bs.length + (textF s).length ≤ 1073741824) (m N : Nat) : ACall Try.prog 134 [.row m false (bytesA bs).length, vs s] N [(m, .row 1 false (bytesA bs))] fun _ r H' => GivesB (bs ++ textF s) r H' :=
  ACall.forget (rtext_ok bs s hs hb m N)

theorem rChild_ok (n : Nd) (key : Str) (h1 : n.pivots.length ≤ 1073741824) : APure Try.prog 41 [ndA n, vs key] (vi (nodeChildF n key)) := by
  refine APure.intro fun N0 => ?_
  refine ACall.of_body tabOk (tab := tab) (fn := Try.f41) Try.func41 (by kernel_rfl) rfl (by simp [Try.f41]) ?_
  show AWp Try.prog 27 _ N0 [(0, ndA n), (1, vs key)] [] _
  refine AWp.regK fun K1 hK1 => ?_
  refine AOps.op1 (AOp.box rfl rfl rfl) rfl rfl rfl ?_
  refine AOps.read (ARead.assign rfl rfl) rfl rfl rfl ?_
  refine AOps.nil (hK1 _ _ _ ?_); clear hK1 K1
  refine AWp.keep [1, 2] rfl ?_
  refine AWp.regK fun K2 hK2 => ?_
  refine AOps.read (ARead.assign rfl rfl) rfl rfl rfl ?_
  refine AOps.nil (hK2 _ _ _ ?_); clear hK2 K2
  refine AWp.keep [1, 2, 5] rfl ?_
  refine AWp.seqK fun K3 hK3 => ?_
  refine AWp.regK fun K4 hK4 => ?_
  refine AOps.read (ARead.fieldAddr tabOk rfl rfl rfl rfl (by decide) rfl) rfl rfl rfl ?_
  refine AOps.read (ARead.load tabOk rfl rfl rfl (by repeat (first | exact Has.head _ | apply Has.tail)) (by first | decide | omega) rfl rfl) rfl rfl rfl ?_
  first | refine AOps.read (ARead.lenSl tabOk rfl rfl rfl rfl rfl) rfl rfl rfl ?_ | refine AOps.read (ARead.lenRow tabOk rfl rfl rfl rfl) rfl rfl rfl ?_
  refine AOps.read (ARead.move rfl rfl) rfl rfl rfl ?_
  refine AOps.nil (hK4 _ _ _ ?_); clear hK4 K4
  refine AWp.keep [1, 2, 5, 9, 10, 11] rfl ?_
  refine AWp.block ?_
  refine AWp.loopP (α := Nat × Nat) [1, 2, 5, 9, 10, 11] (fun x N => [(1, vs key), (2, .ptr N0 5 0 0), (5, vi x.2), (9, strs n.vn n.pivots), (10, vi n.pivots.length), (11, vi x.1)]) (fun x N => [(N0, vr (ndC n))]) (fun x N => x.1 ≤ n.pivots.length ∧ x.2 ≤ x.1 ∧ (if n.leaf = true then x.2 = 0 else x.2 + childF key (n.pivots.drop x.1) = childF key n.pivots)) (fun x => n.pivots.length - x.1) (0, 0) rfl (.cons _ _ _ _ _ _ (by repeat (first | exact Has.head _ | apply Has.tail)) (.nil _)) (⟨Nat.zero_le _, Nat.le_refl _, by split; rfl; exact Nat.zero_add _⟩) (fun x N hN hg K6 hK6 => ?_)
  obtain ⟨hg1, hg2, hg3⟩ := hg
  refine AWp.regK fun K7 hK7 => ?_
  refine AOps.read (ARead.binOp rfl rfl rfl rfl) rfl rfl rfl ?_
  refine AOps.nil (hK7 _ _ _ ?_); clear hK7 K7
  refine AWp.keep [1, 2, 5, 9, 10, 11, 12] rfl ?_
  refine AWp.seqK fun K8 hK8 => ?_
  refine AWp.cond rfl (fun hb9 => ?_) (fun hb9 => ?_)
  · have hc9 := hb9; clear hb9; try simp only [decide_eq_true_eq, decide_eq_false_iff_not, Bool.not_eq_true, Bool.not_eq_false, Int.not_lt, Int.not_le, Bool.not_eq_true', Bool.not_eq_false'] at hc9
    have hlt : x.1 < n.pivots.length := by omega
    rw [drop_getD [] hlt] at hg3
    simp only [childF] at hg3
    refine AWp.skip (hK8 _ _ _ ?_); try clear hK8 K8
    refine AWp.keep [1, 2, 5, 9, 10, 11] rfl ?_
    refine AWp.seqK fun K10 hK10 => ?_
    refine AWp.block ?_
    refine AWp.regK fun K12 hK12 => ?_
    first | refine AOps.read (ARead.indexAddrF tabOk rfl rfl rfl rfl rfl rfl rfl (by omega) (by omega)) rfl rfl rfl ?_ | refine AOps.read (ARead.indexAddr tabOk rfl rfl rfl rfl rfl rfl rfl (by omega) (by omega)) rfl rfl rfl ?_ | refine AOps.read (ARead.indexAddrA tabOk rfl rfl rfl rfl rfl rfl rfl (by omega) (by omega)) rfl rfl rfl ?_
    first | refine AOps.read (ARead.loadF tabOk rfl rfl rfl rfl) rfl rfl rfl ?_ | refine AOps.read (ARead.load tabOk rfl rfl rfl (by repeat (first | exact Has.head _ | apply Has.tail)) (by first | decide | omega) rfl rfl) rfl rfl rfl ?_ | refine AOps.read (ARead.loadC tabOk rfl rfl rfl (by repeat (first | exact Has.head _ | apply Has.tail)) rfl rfl) rfl rfl rfl ?_
    refine AOps.read (ARead.assign rfl rfl) rfl rfl rfl ?_
    refine AOps.nil (hK12 _ _ _ ?_); clear hK12 K12
    refine AWp.keep [1, 2, 5, 7, 9, 10, 11] rfl ?_
    refine AWp.regK fun K13 hK13 => ?_
    refine AOps.read (ARead.fieldAddr tabOk rfl rfl rfl rfl (by decide) rfl) rfl rfl rfl ?_
    refine AOps.read (ARead.load tabOk rfl rfl rfl (by repeat (first | exact Has.head _ | apply Has.tail)) (by first | decide | omega) rfl rfl) rfl rfl rfl ?_
    refine AOps.read (ARead.unOp rfl rfl rfl) rfl rfl rfl ?_
    refine AOps.read (ARead.move rfl rfl) rfl rfl rfl ?_
    refine AOps.keep [1, 2, 5, 7, 9, 10, 11, 18] rfl ?_
    refine AOps.gread rfl rfl rfl rfl rfl (.cons 7 _ _ _ rfl (by first | exact .strip _ _ id | (refine .strip _ _ (fun h => ?_); simp_all; done) | exact .same _) .nil) (fun hG => ARead.move rfl rfl) rfl rfl ?_
    refine AOps.gread rfl rfl rfl rfl rfl (.cons 1 _ _ _ rfl (by first | exact .strip _ _ id | (refine .strip _ _ (fun h => ?_); simp_all; done) | exact .same _) .nil) (fun hG => ARead.move rfl rfl) rfl rfl ?_
    refine AOps.gread rfl rfl rfl rfl rfl (.cons 19 _ _ _ rfl (by first | exact .strip _ _ id | (refine .strip _ _ (fun h => ?_); simp_all; done) | exact .same _) (.cons 20 _ _ _ rfl (by first | exact .strip _ _ id | (refine .strip _ _ (fun h => ?_); simp_all; done) | exact .same _) .nil)) (fun hG => ARead.binOp rfl rfl rfl rfl) rfl rfl ?_
    first | refine AOps.read (ARead.pickB rfl rfl rfl (by first | exact .strip _ _ id | (refine .strip _ _ (fun h => ?_); simp_all; done) | exact .same _) rfl (by first | exact .strip _ _ id | (refine .strip _ _ (fun h => ?_); simp_all; done) | exact .same _)) rfl rfl rfl ?_ | refine AOps.read (ARead.pick rfl rfl rfl) rfl rfl rfl ?_
    refine AOps.nil (hK13 _ _ _ ?_); clear hK13 K13
    refine AWp.keep [1, 2, 5, 9, 10, 11, 22] rfl ?_
    refine AWp.cond rfl (fun hb14 => ?_) (fun hb14 => ?_)
    · have hc14 := hb14; clear hb14; try simp only [decide_eq_true_eq, decide_eq_false_iff_not, Bool.not_eq_true, Bool.not_eq_false, Int.not_lt, Int.not_le, Bool.not_eq_true', Bool.not_eq_false'] at hc14
      simp only [Int.toNat_natCast] at hc14
      refine AWp.region ?_
      refine AOps.read (ARead.move rfl rfl) rfl rfl rfl ?_
      first | refine AOps.read (ARead.binW rfl rfl rfl rfl (i64_ok (by omega) (by omega))) rfl rfl rfl ?_ | refine AOps.read (ARead.binOp rfl rfl rfl rfl) rfl rfl rfl ?_
      refine AOps.read (ARead.assign rfl rfl) rfl rfl rfl ?_
      refine AOps.nil (hK10 _ _ _ ?_); try clear hK10 K10
      refine AWp.keep [1, 2, 5, 9, 10, 11] rfl ?_
      refine AWp.region ?_
      first | refine AOps.read (ARead.binW rfl rfl rfl rfl (i64_ok (by omega) (by omega))) rfl rfl rfl ?_ | refine AOps.read (ARead.binOp rfl rfl rfl rfl) rfl rfl rfl ?_
      refine AOps.read (ARead.move rfl rfl) rfl rfl rfl ?_
      (try clear hK14 K14); (try clear hK13 K13); (try clear hK12 K12); (try clear hK11 K11); (try clear hK10 K10); (try clear hK9 K9); (try clear hK8 K8); (try clear hK7 K7); (try clear hK5 K5); (try clear hK4 K4); (try clear hK3 K3); (try clear hK2 K2); (try clear hK1 K1)
      refine AOps.nil (hK6 _ _ _ (x.1 + 1, if (bif !n.leaf then sle (n.pivots.getD x.1 []) key else false) = true then x.2 + 1 else x.2) _ (by first | (rw [if_pos hc14]; rfl) | (rw [if_neg (fun h => Bool.false_ne_true (hc14.symm.trans h))]; rfl)) (.cons _ _ _ _ _ _ (by repeat (first | exact Has.head _ | apply Has.tail)) (.nil _)) (by dsimp only; cases hleaf : n.leaf <;> simp_all [childF] <;> omega) (by show _ - (x.1 + 1) < _; omega))
    · have hc14 := hb14; clear hb14; try simp only [decide_eq_true_eq, decide_eq_false_iff_not, Bool.not_eq_true, Bool.not_eq_false, Int.not_lt, Int.not_le, Bool.not_eq_true', Bool.not_eq_false'] at hc14
      simp only [Int.toNat_natCast] at hc14
      refine AWp.skip (hK10 _ _ _ ?_); try clear hK10 K10
      refine AWp.keep [1, 2, 5, 9, 10, 11] rfl ?_
      refine AWp.region ?_
      first | refine AOps.read (ARead.binW rfl rfl rfl rfl (i64_ok (by omega) (by omega))) rfl rfl rfl ?_ | refine AOps.read (ARead.binOp rfl rfl rfl rfl) rfl rfl rfl ?_
      refine AOps.read (ARead.move rfl rfl) rfl rfl rfl ?_
      (try clear hK14 K14); (try clear hK13 K13); (try clear hK12 K12); (try clear hK11 K11); (try clear hK10 K10); (try clear hK9 K9); (try clear hK8 K8); (try clear hK7 K7); (try clear hK5 K5); (try clear hK4 K4); (try clear hK3 K3); (try clear hK2 K2); (try clear hK1 K1)
      refine AOps.nil (hK6 _ _ _ (x.1 + 1, if (bif !n.leaf then sle (n.pivots.getD x.1 []) key else false) = true then x.2 + 1 else x.2) _ (by first | (rw [if_pos hc14]; rfl) | (rw [if_neg (fun h => Bool.false_ne_true (hc14.symm.trans h))]; rfl)) (.cons _ _ _ _ _ _ (by repeat (first | exact Has.head _ | apply Has.tail)) (.nil _)) (by dsimp only; cases hleaf : n.leaf <;> simp_all [childF] <;> omega) (by show _ - (x.1 + 1) < _; omega))
  · have hc9 := hb9; clear hb9; try simp only [decide_eq_true_eq, decide_eq_false_iff_not, Bool.not_eq_true, Bool.not_eq_false, Int.not_lt, Int.not_le, Bool.not_eq_true', Bool.not_eq_false'] at hc9
    rw [List.drop_of_length_le (by omega)] at hg3
    simp only [childF] at hg3
    refine AWp.exit (Or.inl ⟨rfl, (hK3 _ _ _ ?_)⟩); try clear hK3 K3
    refine AWp.keep [5] rfl ?_
    refine AWp.regK fun K15 hK15 => ?_
    refine AOps.read (ARead.move rfl rfl) rfl rfl rfl ?_
    refine AOps.read (ARead.assign rfl rfl) rfl rfl rfl ?_
    refine AOps.nil (hK15 _ _ _ ?_); clear hK15 K15
    refine AWp.keep [4] rfl ?_
    refine AWp.ret ?_
    refine ⟨Or.inr rfl, _, (.tmp _ _ _ _ rfl .nil), ?_⟩
    (try clear hK15 K15); (try clear hK14 K14); (try clear hK13 K13); (try clear hK12 K12); (try clear hK11 K11); (try clear hK10 K10); (try clear hK9 K9); (try clear hK8 K8); (try clear hK7 K7); (try clear hK6 K6); (try clear hK5 K5); (try clear hK4 K4); (try clear hK3 K3); (try clear hK2 K2); (try clear hK1 K1)
    show packR _ = _
    show vi _ = vi _; unfold nodeChildF; split <;> simp_all

end Go.Sl
