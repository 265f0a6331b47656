/- Encode of the code and of the reference, told alike; the law NodeWrites. No condition beside those in the statements. -/
import Derived.Test.YtfbagkifhpnfjaaRef5
import Derived.Test.YtfbagkifhpnfjaaNode11
namespace Go.Sl
open Go Go.Proofs 
set_option linter.unusedVariables false
set_option linter.unusedSimpArgs false
set_option maxRecDepth 20000
set_option maxHeartbeats 400000
/-- What Encode tells: the bytes in a row of their own, none and nil if there is an error. -/
def GivesE (e : Int) (nil : Bool) (bs : List UInt8) (r : AV) (H : Heap) : Prop := ∃ m, r = .tuple [.row m nil (bytesA bs).length, vi e] ∧ H = [(m, .row 1 nil (bytesA bs))]
def encNil (n : Nd) : Bool := decide (encErrF n ≠ 0)
def encBF (n : Nd) : List UInt8 := if encErrF n = 0 then wholeF n else []
theorem rwhole_gives (n : Nd) (ok : WholeOk n) (N : Nat) : ACall Try.prog 86 [ndA n] N [] fun _ r H' => GivesB (wholeF n) r H' := ACall.forget (rwhole_ok n ok N)

theorem rSize_ok (n : Nd) (f : NdFit n) : APure Try.prog 39 [ndA n] (.tuple [vi (sizeF n), vi (nodeCheckF n)]) := by
  refine APure.intro fun N0 => ?_
  refine ACall.of_body tabOk (tab := tab) (fn := Try.f39) Try.func39 (by kernel_rfl) rfl (by simp [Try.f39]) ?_
  show AWp Try.prog 13 _ N0 [(0, ndA n)] [] _
  refine AWp.regK fun K1 hK1 => ?_
  refine AOps.op1 (AOp.box rfl rfl rfl) rfl rfl rfl ?_
  refine AOps.read (ARead.assign rfl rfl) rfl rfl rfl ?_
  refine AOps.read (ARead.assign rfl rfl) rfl rfl rfl ?_
  refine AOps.nil (hK1 _ _ _ ?_); clear hK1 K1
  refine AWp.keep [1] rfl ?_
  refine AWp.seqK fun K2 hK2 => ?_
  refine AWp.regK fun K3 hK3 => ?_
  refine AOps.read (ARead.load tabOk rfl rfl rfl (by repeat (first | exact Has.head _ | apply Has.tail)) (by first | decide | omega) rfl rfl) rfl rfl rfl ?_
  refine AOps.pcall (rCheck_ok n f.ok) rfl (by first | exact .inr ⟨rfl, rfl, rfl⟩ | exact .inl rfl) rfl rfl rfl rfl (fun N hN => ?_)
  refine AOps.read (ARead.assign rfl rfl) rfl rfl rfl ?_
  refine AOps.nil (hK3 _ _ _ ?_); clear hK3 K3
  refine AWp.keep [1, 4] rfl ?_
  refine AWp.regK fun K4 hK4 => ?_
  refine AOps.read (ARead.move rfl rfl) rfl rfl rfl ?_
  refine AOps.read (ARead.binOp rfl rfl rfl rfl) rfl rfl rfl ?_
  refine AOps.nil (hK4 _ _ _ ?_); clear hK4 K4
  refine AWp.keep [1, 4, 8] rfl ?_
  refine AWp.cond rfl (fun hb5 => ?_) (fun hb5 => ?_)
  · have hc5 := hb5; clear hb5; try simp only [decide_eq_true_eq, decide_eq_false_iff_not, Bool.not_eq_true, Bool.not_eq_false, Int.not_lt, Int.not_le, Bool.not_eq_true', Bool.not_eq_false'] at hc5
    refine AWp.regK fun K6 hK6 => ?_
    refine AOps.read (ARead.move rfl rfl) rfl rfl rfl ?_
    refine AOps.read (ARead.assign rfl rfl) rfl rfl rfl ?_
    refine AOps.read (ARead.assign rfl rfl) rfl rfl rfl ?_
    refine AOps.nil (hK6 _ _ _ ?_); clear hK6 K6
    refine AWp.keep [2, 3] rfl ?_
    refine AWp.ret ?_
    refine ⟨Or.inr rfl, _, (.tmp _ _ _ _ rfl (.tmp _ _ _ _ rfl .nil)), ?_⟩
    (try clear hK6 K6); (try clear hK5 K5); (try clear hK4 K4); (try clear hK3 K3); (try clear hK2 K2); (try clear hK1 K1)
    show packR _ = _
    simp only [packR, sizeF]; first | (rw [if_pos (by assumption)]; done) | (rw [if_neg (by simp_all)]; simp_all)
  · have hc5 := hb5; clear hb5; try simp only [decide_eq_true_eq, decide_eq_false_iff_not, Bool.not_eq_true, Bool.not_eq_false, Int.not_lt, Int.not_le, Bool.not_eq_true', Bool.not_eq_false'] at hc5
    refine AWp.skip (hK2 _ _ _ ?_); try clear hK2 K2
    refine AWp.keep [1] rfl ?_
    refine AWp.regK fun K7 hK7 => ?_
    refine AOps.read (ARead.load tabOk rfl rfl rfl (by repeat (first | exact Has.head _ | apply Has.tail)) (by first | decide | omega) rfl rfl) rfl rfl rfl ?_
    refine AOps.op ((AOp.call rfl (.inr ⟨rfl, rfl, rfl⟩) rfl (rwhole_gives n (whole_len f (by simp_all)) _)).frame (.nil _)) rfl rfl rfl ?_
    rintro N1 r1 H1 hN1 ⟨H1x, ⟨m1, rfl, rfl⟩, rfl⟩
    first | refine AOps.read (ARead.lenSl tabOk rfl rfl rfl rfl rfl) rfl rfl rfl ?_ | refine AOps.read (ARead.lenRow tabOk rfl rfl rfl rfl) rfl rfl rfl ?_
    refine AOps.read (ARead.assign rfl rfl) rfl rfl rfl ?_
    refine AOps.keep [2] rfl ?_
    refine AOps.read (ARead.assign rfl rfl) rfl rfl rfl ?_
    refine AOps.nil (hK7 _ _ _ ?_); clear hK7 K7
    refine AWp.keep [2, 3] rfl ?_
    refine AWp.ret ?_
    refine ⟨Or.inr rfl, _, (.tmp _ _ _ _ rfl (.tmp _ _ _ _ rfl .nil)), ?_⟩
    (try clear hK7 K7); (try clear hK6 K6); (try clear hK5 K5); (try clear hK4 K4); (try clear hK3 K3); (try clear hK2 K2); (try clear hK1 K1)
    show packR _ = _
    simp only [packR, sizeF]; first | (rw [if_pos (by assumption)]; done) | (rw [if_neg (by simp_all)]; simp_all)

theorem encA_err (n : Nd) (f : NdFit n) (he : encErrF n ≠ 0) (N0 : Nat) : ACall Try.prog 36 [ndA n] N0 [] (fun _ r H' => ∃ H1 Hx, Take H1 H' Hx ∧ GivesE (encErrF n) true ([]) r H1) := by
  refine ACall.of_body tabOk (tab := tab) (fn := Try.f36) Try.func36 (by kernel_rfl) rfl (by simp [Try.f36]) ?_
  show AWp Try.prog 17 _ N0 [(0, ndA n)] [] _
  refine AWp.regK fun K1 hK1 => ?_
  refine AOps.op1 (AOp.box rfl rfl rfl) rfl rfl rfl ?_
  refine AOps.read (ARead.assign rfl rfl) rfl rfl rfl ?_
  refine AOps.read (ARead.assign rfl rfl) rfl rfl rfl ?_
  refine AOps.nil (hK1 _ _ _ ?_); clear hK1 K1
  refine AWp.keep [1] rfl ?_
  refine AWp.seqK fun K2 hK2 => ?_
  refine AWp.regK fun K3 hK3 => ?_
  refine AOps.read (ARead.load tabOk rfl rfl rfl (by repeat (first | exact Has.head _ | apply Has.tail)) (by first | decide | omega) rfl rfl) rfl rfl rfl ?_
  refine AOps.pcall (nodeCheck_ok n f.ok) rfl (by first | exact .inr ⟨rfl, rfl, rfl⟩ | exact .inl rfl) rfl rfl rfl rfl (fun N hN => ?_)
  refine AOps.read (ARead.assign rfl rfl) rfl rfl rfl ?_
  refine AOps.nil (hK3 _ _ _ ?_); clear hK3 K3
  refine AWp.keep [1, 4] rfl ?_
  refine AWp.regK fun K4 hK4 => ?_
  refine AOps.read (ARead.move rfl rfl) rfl rfl rfl ?_
  refine AOps.read (ARead.binOp rfl rfl rfl rfl) rfl rfl rfl ?_
  refine AOps.nil (hK4 _ _ _ ?_); clear hK4 K4
  refine AWp.keep [1, 4, 9] rfl ?_
  refine AWp.cond rfl (fun hb5 => ?_) (fun hb5 => ?_)
  · have hc5 := hb5; clear hb5; try simp only [decide_eq_true_eq, decide_eq_false_iff_not, Bool.not_eq_true, Bool.not_eq_false, Int.not_lt, Int.not_le, Bool.not_eq_true', Bool.not_eq_false'] at hc5
    refine AWp.regK fun K6 hK6 => ?_
    refine AOps.read (ARead.move rfl rfl) rfl rfl rfl ?_
    refine AOps.read (ARead.assign rfl rfl) rfl rfl rfl ?_
    refine AOps.ghost (Ghost.rowOf (sz := 1) [2] ⟨rfl, trivial⟩ ?_)
    refine AOps.read (ARead.assign rfl rfl) rfl rfl rfl ?_
    refine AOps.nil (hK6 _ _ _ ?_); clear hK6 K6
    refine AWp.keep [2, 3] rfl ?_
    refine AWp.ret ?_
    refine ⟨Or.inr rfl, _, (.tmp _ _ _ _ rfl (.tmp _ _ _ _ rfl .nil)), ?_⟩
    (try clear hK6 K6); (try clear hK5 K5); (try clear hK4 K4); (try clear hK3 K3); (try clear hK2 K2); (try clear hK1 K1)
    first | (rw [show encErrF n = nodeCheckF n from by unfold encErrF; rw [if_pos (by assumption)]]) | (rw [show encErrF n = 2 from by unfold encErrF; rw [if_neg (by simp_all), if_pos (by omega)]])
    exact ⟨_, _, .cons _ _ _ _ _ _ (by repeat (first | exact Has.head _ | apply Has.tail)) (.nil _), _, rfl, rfl⟩
  · have hc5 := hb5; clear hb5; try simp only [decide_eq_true_eq, decide_eq_false_iff_not, Bool.not_eq_true, Bool.not_eq_false, Int.not_lt, Int.not_le, Bool.not_eq_true', Bool.not_eq_false'] at hc5
    refine AWp.skip (hK2 _ _ _ ?_); try clear hK2 K2
    refine AWp.keep [1] rfl ?_
    refine AWp.regK fun K7 hK7 => ?_
    refine AOps.read (ARead.load tabOk rfl rfl rfl (by repeat (first | exact Has.head _ | apply Has.tail)) (by first | decide | omega) rfl rfl) rfl rfl rfl ?_
    refine AOps.op ((AOp.call rfl (.inr ⟨rfl, rfl, rfl⟩) rfl (whole_gives n (whole_len f (by simp_all)) _)).frame (.nil _)) rfl rfl rfl ?_
    rintro N1 r1 H1 hN1 ⟨H1x, ⟨m1, rfl, rfl⟩, rfl⟩
    refine AOps.read (ARead.assign rfl rfl) rfl rfl rfl ?_
    refine AOps.nil (hK7 _ _ _ ?_); clear hK7 K7
    refine AWp.keep [5] rfl ?_
    refine AWp.seqK fun K8 hK8 => ?_
    refine AWp.regK fun K9 hK9 => ?_
    refine AOps.read (ARead.move rfl rfl) rfl rfl rfl ?_
    first | refine AOps.read (ARead.lenSl tabOk rfl rfl rfl rfl rfl) rfl rfl rfl ?_ | refine AOps.read (ARead.lenRow tabOk rfl rfl rfl rfl) rfl rfl rfl ?_
    refine AOps.read (ARead.binOp rfl rfl rfl rfl) rfl rfl rfl ?_
    refine AOps.nil (hK9 _ _ _ ?_); clear hK9 K9
    refine AWp.keep [5, 15] rfl ?_
    refine AWp.cond rfl (fun hb10 => ?_) (fun hb10 => ?_)
    · have hc10 := hb10; clear hb10; try simp only [decide_eq_true_eq, decide_eq_false_iff_not, Bool.not_eq_true, Bool.not_eq_false, Int.not_lt, Int.not_le, Bool.not_eq_true', Bool.not_eq_false'] at hc10
      simp only [bytesA, List.length_map] at hc10
      refine AWp.regK fun K11 hK11 => ?_
      refine AOps.read (ARead.assign rfl rfl) rfl rfl rfl ?_
      refine AOps.ghost (Ghost.rowOf (sz := 1) [2] ⟨rfl, trivial⟩ ?_)
      refine AOps.read (ARead.assign rfl rfl) rfl rfl rfl ?_
      refine AOps.nil (hK11 _ _ _ ?_); clear hK11 K11
      refine AWp.keep [2, 3] rfl ?_
      refine AWp.ret ?_
      refine ⟨Or.inr rfl, _, (.tmp _ _ _ _ rfl (.tmp _ _ _ _ rfl .nil)), ?_⟩
      (try clear hK11 K11); (try clear hK10 K10); (try clear hK9 K9); (try clear hK8 K8); (try clear hK7 K7); (try clear hK6 K6); (try clear hK5 K5); (try clear hK4 K4); (try clear hK3 K3); (try clear hK2 K2); (try clear hK1 K1)
      first | (rw [show encErrF n = nodeCheckF n from by unfold encErrF; rw [if_pos (by assumption)]]) | (rw [show encErrF n = 2 from by unfold encErrF; rw [if_neg (by simp_all), if_pos (by omega)]])
      exact ⟨_, _, .cons _ _ _ _ _ _ (by repeat (first | exact Has.head _ | apply Has.tail)) (.nil _), _, rfl, rfl⟩
    · exfalso; have hc10 := hb10; clear hb10; try simp only [decide_eq_true_eq, decide_eq_false_iff_not, Bool.not_eq_true, Bool.not_eq_false, Int.not_lt, Int.not_le, Bool.not_eq_true', Bool.not_eq_false'] at hc10
      simp only [bytesA, List.length_map] at hc10
      exact he (by unfold encErrF; rw [if_neg (by simp_all), if_neg (by omega)])

theorem encR_err (n : Nd) (f : NdFit n) (he : encErrF n ≠ 0) (N0 : Nat) : ACall Try.prog 37 [ndA n] N0 [] (fun _ r H' => ∃ H1 Hx, Take H1 H' Hx ∧ GivesE (encErrF n) true ([]) r H1) := by
  refine ACall.of_body tabOk (tab := tab) (fn := Try.f37) Try.func37 (by kernel_rfl) rfl (by simp [Try.f37]) ?_
  show AWp Try.prog 18 _ N0 [(0, ndA n)] [] _
  refine AWp.regK fun K1 hK1 => ?_
  refine AOps.op1 (AOp.box rfl rfl rfl) rfl rfl rfl ?_
  refine AOps.read (ARead.assign rfl rfl) rfl rfl rfl ?_
  refine AOps.read (ARead.assign rfl rfl) rfl rfl rfl ?_
  refine AOps.nil (hK1 _ _ _ ?_); clear hK1 K1
  refine AWp.keep [1] rfl ?_
  refine AWp.regK fun K2 hK2 => ?_
  refine AOps.read (ARead.load tabOk rfl rfl rfl (by repeat (first | exact Has.head _ | apply Has.tail)) (by first | decide | omega) rfl rfl) rfl rfl rfl ?_
  refine AOps.pcall (rSize_ok n f) rfl (by first | exact .inr ⟨rfl, rfl, rfl⟩ | exact .inl rfl) rfl rfl rfl rfl (fun N hN => ?_)
  refine AOps.read (ARead.move rfl rfl) rfl rfl rfl ?_
  refine AOps.read (ARead.extract rfl rfl rfl) rfl rfl rfl ?_
  refine AOps.keep [1, 6, 9] rfl ?_
  refine AOps.read (ARead.extract rfl rfl rfl) rfl rfl rfl ?_
  refine AOps.read (ARead.assign rfl rfl) rfl rfl rfl ?_
  refine AOps.read (ARead.assign rfl rfl) rfl rfl rfl ?_
  refine AOps.nil (hK2 _ _ _ ?_); clear hK2 K2
  refine AWp.keep [1, 4, 5] rfl ?_
  refine AWp.seqK fun K3 hK3 => ?_
  refine AWp.regK fun K4 hK4 => ?_
  refine AOps.read (ARead.move rfl rfl) rfl rfl rfl ?_
  refine AOps.read (ARead.binOp rfl rfl rfl rfl) rfl rfl rfl ?_
  refine AOps.nil (hK4 _ _ _ ?_); clear hK4 K4
  refine AWp.keep [1, 4, 5, 12] rfl ?_
  refine AWp.cond rfl (fun hb5 => ?_) (fun hb5 => ?_)
  · have hc5 := hb5; clear hb5; try simp only [decide_eq_true_eq, decide_eq_false_iff_not, Bool.not_eq_true, Bool.not_eq_false, Int.not_lt, Int.not_le, Bool.not_eq_true', Bool.not_eq_false'] at hc5
    refine AWp.regK fun K6 hK6 => ?_
    refine AOps.read (ARead.move rfl rfl) rfl rfl rfl ?_
    refine AOps.read (ARead.assign rfl rfl) rfl rfl rfl ?_
    refine AOps.ghost (Ghost.rowOf (sz := 1) [2] ⟨rfl, trivial⟩ ?_)
    refine AOps.read (ARead.assign rfl rfl) rfl rfl rfl ?_
    refine AOps.nil (hK6 _ _ _ ?_); clear hK6 K6
    refine AWp.keep [2, 3] rfl ?_
    refine AWp.ret ?_
    refine ⟨Or.inr rfl, _, (.tmp _ _ _ _ rfl (.tmp _ _ _ _ rfl .nil)), ?_⟩
    (try clear hK6 K6); (try clear hK5 K5); (try clear hK4 K4); (try clear hK3 K3); (try clear hK2 K2); (try clear hK1 K1)
    first | (rw [show encErrF n = nodeCheckF n from by unfold encErrF; rw [if_pos (by assumption)]]) | (rw [show encErrF n = 2 from by unfold encErrF; unfold sizeF at hc9; rw [if_neg (by simp_all), if_pos (by simp_all <;> omega)]])
    exact ⟨_, _, .cons _ _ _ _ _ _ (by repeat (first | exact Has.head _ | apply Has.tail)) (.nil _), _, rfl, rfl⟩
  · have hc5 := hb5; clear hb5; try simp only [decide_eq_true_eq, decide_eq_false_iff_not, Bool.not_eq_true, Bool.not_eq_false, Int.not_lt, Int.not_le, Bool.not_eq_true', Bool.not_eq_false'] at hc5
    refine AWp.skip (hK3 _ _ _ ?_); try clear hK3 K3
    refine AWp.keep [1, 4] rfl ?_
    refine AWp.seqK fun K7 hK7 => ?_
    refine AWp.regK fun K8 hK8 => ?_
    refine AOps.read (ARead.move rfl rfl) rfl rfl rfl ?_
    refine AOps.read (ARead.binOp rfl rfl rfl rfl) rfl rfl rfl ?_
    refine AOps.nil (hK8 _ _ _ ?_); clear hK8 K8
    refine AWp.keep [1, 15] rfl ?_
    refine AWp.cond rfl (fun hb9 => ?_) (fun hb9 => ?_)
    · have hc9 := hb9; clear hb9; try simp only [decide_eq_true_eq, decide_eq_false_iff_not, Bool.not_eq_true, Bool.not_eq_false, Int.not_lt, Int.not_le, Bool.not_eq_true', Bool.not_eq_false'] at hc9
      refine AWp.regK fun K10 hK10 => ?_
      refine AOps.read (ARead.assign rfl rfl) rfl rfl rfl ?_
      refine AOps.ghost (Ghost.rowOf (sz := 1) [2] ⟨rfl, trivial⟩ ?_)
      refine AOps.read (ARead.assign rfl rfl) rfl rfl rfl ?_
      refine AOps.nil (hK10 _ _ _ ?_); clear hK10 K10
      refine AWp.keep [2, 3] rfl ?_
      refine AWp.ret ?_
      refine ⟨Or.inr rfl, _, (.tmp _ _ _ _ rfl (.tmp _ _ _ _ rfl .nil)), ?_⟩
      (try clear hK10 K10); (try clear hK9 K9); (try clear hK8 K8); (try clear hK7 K7); (try clear hK6 K6); (try clear hK5 K5); (try clear hK4 K4); (try clear hK3 K3); (try clear hK2 K2); (try clear hK1 K1)
      first | (rw [show encErrF n = nodeCheckF n from by unfold encErrF; rw [if_pos (by assumption)]]) | (rw [show encErrF n = 2 from by unfold encErrF; unfold sizeF at hc9; rw [if_neg (by simp_all), if_pos (by simp_all <;> omega)]])
      exact ⟨_, _, .cons _ _ _ _ _ _ (by repeat (first | exact Has.head _ | apply Has.tail)) (.nil _), _, rfl, rfl⟩
    · exfalso; have hc9 := hb9; clear hb9; try simp only [decide_eq_true_eq, decide_eq_false_iff_not, Bool.not_eq_true, Bool.not_eq_false, Int.not_lt, Int.not_le, Bool.not_eq_true', Bool.not_eq_false'] at hc9
      exact he (by unfold encErrF; unfold sizeF at hc9; rw [if_neg (by simp_all), if_neg (by simp_all <;> omega)])

theorem encR_ok (n : Nd) (f : NdFit n) (he : encErrF n = 0) (N0 : Nat) : ACall Try.prog 37 [ndA n] N0 [] (fun _ r H' => ∃ H1 Hx, Take H1 H' Hx ∧ GivesE (0) false (wholeF n) r H1) := by
  refine ACall.of_body tabOk (tab := tab) (fn := Try.f37) Try.func37 (by kernel_rfl) rfl (by simp [Try.f37]) ?_
  show AWp Try.prog 18 _ N0 [(0, ndA n)] [] _
  refine AWp.regK fun K1 hK1 => ?_
  refine AOps.op1 (AOp.box rfl rfl rfl) rfl rfl rfl ?_
  refine AOps.read (ARead.assign rfl rfl) rfl rfl rfl ?_
  refine AOps.read (ARead.assign rfl rfl) rfl rfl rfl ?_
  refine AOps.nil (hK1 _ _ _ ?_); clear hK1 K1
  refine AWp.keep [1] rfl ?_
  refine AWp.regK fun K2 hK2 => ?_
  refine AOps.read (ARead.load tabOk rfl rfl rfl (by repeat (first | exact Has.head _ | apply Has.tail)) (by first | decide | omega) rfl rfl) rfl rfl rfl ?_
  refine AOps.pcall (rSize_ok n f) rfl (by first | exact .inr ⟨rfl, rfl, rfl⟩ | exact .inl rfl) rfl rfl rfl rfl (fun N hN => ?_)
  refine AOps.read (ARead.move rfl rfl) rfl rfl rfl ?_
  refine AOps.read (ARead.extract rfl rfl rfl) rfl rfl rfl ?_
  refine AOps.keep [1, 6, 9] rfl ?_
  refine AOps.read (ARead.extract rfl rfl rfl) rfl rfl rfl ?_
  refine AOps.read (ARead.assign rfl rfl) rfl rfl rfl ?_
  refine AOps.read (ARead.assign rfl rfl) rfl rfl rfl ?_
  refine AOps.nil (hK2 _ _ _ ?_); clear hK2 K2
  refine AWp.keep [1, 4, 5] rfl ?_
  refine AWp.seqK fun K3 hK3 => ?_
  refine AWp.regK fun K4 hK4 => ?_
  refine AOps.read (ARead.move rfl rfl) rfl rfl rfl ?_
  refine AOps.read (ARead.binOp rfl rfl rfl rfl) rfl rfl rfl ?_
  refine AOps.nil (hK4 _ _ _ ?_); clear hK4 K4
  refine AWp.keep [1, 4, 5, 12] rfl ?_
  refine AWp.cond rfl (fun hb5 => ?_) (fun hb5 => ?_)
  · exfalso; have hc5 := hb5; clear hb5; try simp only [decide_eq_true_eq, decide_eq_false_iff_not, Bool.not_eq_true, Bool.not_eq_false, Int.not_lt, Int.not_le, Bool.not_eq_true', Bool.not_eq_false'] at hc5
    unfold encErrF at he; rw [if_pos (by assumption)] at he; exact absurd he (by assumption)
  · have hc5 := hb5; clear hb5; try simp only [decide_eq_true_eq, decide_eq_false_iff_not, Bool.not_eq_true, Bool.not_eq_false, Int.not_lt, Int.not_le, Bool.not_eq_true', Bool.not_eq_false'] at hc5
    refine AWp.skip (hK3 _ _ _ ?_); try clear hK3 K3
    refine AWp.keep [1, 4] rfl ?_
    refine AWp.seqK fun K6 hK6 => ?_
    refine AWp.regK fun K7 hK7 => ?_
    refine AOps.read (ARead.move rfl rfl) rfl rfl rfl ?_
    refine AOps.read (ARead.binOp rfl rfl rfl rfl) rfl rfl rfl ?_
    refine AOps.nil (hK7 _ _ _ ?_); clear hK7 K7
    refine AWp.keep [1, 15] rfl ?_
    refine AWp.cond rfl (fun hb8 => ?_) (fun hb8 => ?_)
    · exfalso; have hc8 := hb8; clear hb8; try simp only [decide_eq_true_eq, decide_eq_false_iff_not, Bool.not_eq_true, Bool.not_eq_false, Int.not_lt, Int.not_le, Bool.not_eq_true', Bool.not_eq_false'] at hc8
      unfold encErrF at he; unfold sizeF at hc8; rw [if_neg (by simp_all), if_pos (by simp_all <;> omega)] at he; cases he
    · have hc8 := hb8; clear hb8; try simp only [decide_eq_true_eq, decide_eq_false_iff_not, Bool.not_eq_true, Bool.not_eq_false, Int.not_lt, Int.not_le, Bool.not_eq_true', Bool.not_eq_false'] at hc8
      refine AWp.skip (hK6 _ _ _ ?_); try clear hK6 K6
      refine AWp.keep [1] rfl ?_
      refine AWp.regK fun K9 hK9 => ?_
      refine AOps.read (ARead.load tabOk rfl rfl rfl (by repeat (first | exact Has.head _ | apply Has.tail)) (by first | decide | omega) rfl rfl) rfl rfl rfl ?_
      refine AOps.op ((AOp.call rfl (.inr ⟨rfl, rfl, rfl⟩) rfl (rwhole_gives n (whole_len f (by simp_all)) _)).frame (.nil _)) rfl rfl rfl ?_
      rintro N1 r1 H1 hN1 ⟨H1x, ⟨m1, rfl, rfl⟩, rfl⟩
      refine AOps.read (ARead.assign rfl rfl) rfl rfl rfl ?_
      refine AOps.read (ARead.assign rfl rfl) rfl rfl rfl ?_
      refine AOps.nil (hK9 _ _ _ ?_); clear hK9 K9
      refine AWp.keep [2, 3] rfl ?_
      refine AWp.ret ?_
      refine ⟨Or.inr rfl, _, (.tmp _ _ _ _ rfl (.tmp _ _ _ _ rfl .nil)), ?_⟩
      (try clear hK9 K9); (try clear hK8 K8); (try clear hK7 K7); (try clear hK6 K6); (try clear hK5 K5); (try clear hK4 K4); (try clear hK3 K3); (try clear hK2 K2); (try clear hK1 K1)
      exact ⟨_, _, .cons _ _ _ _ _ _ (by repeat (first | exact Has.head _ | apply Has.tail)) (.nil _), _, rfl, rfl⟩

theorem encA (n : Nd) (f : NdFit n) (N : Nat) : ACall Try.prog 36 [ndA n] N [] fun _ r H' => GivesE (encErrF n) (encNil n) (encBF n) r H' := by
  by_cases h : encErrF n = 0
  · rw [show encNil n = false by simp [encNil, h], show encBF n = wholeF n by simp [encBF, h], h]
    refine (ACall.forget (nodeEnc_ok n f h N)).mono fun N' r H' _ hx => ?_
    obtain ⟨v, rfl, m, rfl, rfl⟩ := hx
    exact ⟨m, rfl, rfl⟩
  · rw [show encNil n = true by simp [encNil, h], show encBF n = [] by simp [encBF, h]]
    exact ACall.forget (encA_err n f h N)
theorem encR (n : Nd) (f : NdFit n) (N : Nat) : ACall Try.prog 37 [ndA n] N [] fun _ r H' => GivesE (encErrF n) (encNil n) (encBF n) r H' := by
  by_cases h : encErrF n = 0
  · rw [show encNil n = false by simp [encNil, h], show encBF n = wholeF n by simp [encBF, h], h]
    exact ACall.forget (encR_ok n f h N)
  · rw [show encNil n = true by simp [encNil, h], show encBF n = [] by simp [encBF, h]]
    exact ACall.forget (encR_err n f h N)
theorem incAll : ∀ a : Fin 256, IntKind.u8.wrap ((a.val : Int) + 1) = ((UInt8.ofNat a.val + 1).toNat : Int) := by decide
theorem byteInc (b : UInt8) : IntKind.u8.wrap ((b.toNat : Int) + 1) = ((b + 1).toNat : Int) := by
  have := incAll ⟨b.toNat, b.toNat_lt⟩
  simp only [UInt8.ofNat_toNat] at this
  exact this
theorem bytesA_getD {l : List UInt8} {i : Nat} (h : i < l.length) : (bytesA l).getD i [] = byteA (l.getD i 0) := by
  simp [bytesA, List.getD_eq_getElem?_getD, List.getElem?_map, List.getElem?_eq_getElem h]
theorem bytesSet {l : List UInt8} {i : Nat} (h : i < l.length) (v : UInt8) : (bytesA l).set i (setCells ((bytesA l).getD i []) 0 (acells (.fv (.int .u8 (v.toNat : Int))))) = bytesA (l.set i v) := by
  rw [bytesA_getD h]
  exact (List.map_set ..).symm
theorem encNil_of {n : Nd} {x : Nat} (h : x < (bytesA (encBF n)).length) : encNil n = false := by
  by_cases he : encErrF n = 0
  · simp [encNil, he]
  · simp [encBF, he, bytesA] at h

end Go.Sl
