/- Walks of package node: fields. No condition beside those in the statements. -/
import Derived.Test.YtfbagkifhpnfjaaNode7
namespace Go.Sl
open Go Go.Proofs 
set_option linter.unusedVariables false
set_option linter.unusedSimpArgs false
set_option maxRecDepth 20000
set_option maxHeartbeats 400000
theorem fields2_ok (x : En) (hk : x.op.kind = 2) (a : Nat) (N0 : Nat) : ACall Try.prog 132 [.ptr a 7 0 1] N0 [(a, vr (enA x))] (fun _ r H' => ∃ m, r = .sl m 1 0 2 (some 2) ∧ H' = [(m, vr [.ptr a 7 0 2, .ptr a 7 0 3]), (a, vr (enA x))]) := by
  refine ACall.of_body tabOk (tab := tab) (fn := Try.f132) Try.func132 (by kernel_rfl) rfl (by simp [Try.f132]) ?_
  show AWp Try.prog 31 _ N0 [(0, .ptr a 7 0 1)] [(a, vr (enA x))] _
  refine AWp.regK fun K1 hK1 => ?_
  refine AOps.read (ARead.assign rfl rfl) rfl rfl rfl ?_
  refine AOps.nil (hK1 _ _ _ ?_); clear hK1 K1
  refine AWp.keep [0] rfl ?_
  refine AWp.seqK fun K2 hK2 => ?_
  refine AWp.regK fun K3 hK3 => ?_
  refine AOps.read (ARead.move rfl rfl) rfl rfl rfl ?_
  refine AOps.read (ARead.nilCheck rfl rfl rfl) rfl rfl rfl ?_
  first | refine AOps.read (ARead.fieldAddrF tabOk rfl rfl rfl rfl (by decide) rfl) rfl rfl rfl ?_ | refine AOps.read (ARead.fieldAddr tabOk rfl rfl rfl rfl (by decide) rfl) rfl rfl rfl ?_
  first | refine AOps.read (ARead.loadF tabOk rfl rfl rfl rfl) rfl rfl rfl ?_ | refine AOps.read (ARead.load tabOk rfl rfl rfl (by repeat (first | exact Has.head _ | apply Has.tail)) (by first | decide | omega) rfl rfl) rfl rfl rfl ?_ | refine AOps.read (ARead.loadC tabOk rfl rfl rfl (by repeat (first | exact Has.head _ | apply Has.tail)) rfl rfl) rfl rfl rfl ?_
  refine AOps.nil (hK3 _ _ _ ?_); clear hK3 K3
  refine AWp.keep [0, 6] rfl ?_
  refine AWp.block ?_
  refine AWp.regK fun K5 hK5 => ?_
  refine AOps.read (ARead.binOp rfl rfl rfl rfl) rfl rfl rfl ?_
  refine AOps.read (ARead.assign rfl rfl) rfl rfl rfl ?_
  refine AOps.nil (hK5 _ _ _ ?_); clear hK5 K5
  refine AWp.keep [0, 6, 7] rfl ?_
  refine AWp.cond rfl (fun hb6 => ?_) (fun hb6 => ?_)
  · have hc6 := hb6; clear hb6; try simp only [decide_eq_true_eq, decide_eq_false_iff_not, Bool.not_eq_true, Bool.not_eq_false, Int.not_lt, Int.not_le, Bool.not_eq_true', Bool.not_eq_false'] at hc6
    refine AWp.drawnK mixed (take_all _) fun K7 hK7 => ?_
    refine AAny.take 0 (ARead.move rfl rfl) rfl (by kernel_rfl) (by kernel_rfl) (by kernel_rfl) rfl rfl rfl ?_
    refine AAny.take 1 (ARead.nilCheck rfl rfl rfl) rfl (by kernel_rfl) (by kernel_rfl) (by kernel_rfl) rfl rfl rfl ?_
    refine AAny.keep [0, 10] [0, 10] rfl rfl ?_
    first | refine AAny.take 2 (ARead.fieldAddrF tabOk rfl rfl rfl rfl (by decide) rfl) rfl (by kernel_rfl) (by kernel_rfl) (by kernel_rfl) rfl rfl rfl ?_ | refine AAny.take 2 (ARead.fieldAddr tabOk rfl rfl rfl rfl (by decide) rfl) rfl (by kernel_rfl) (by kernel_rfl) (by kernel_rfl) rfl rfl rfl ?_
    refine AAny.take 3 (ARead.move rfl rfl) rfl (by kernel_rfl) (by kernel_rfl) (by kernel_rfl) rfl rfl rfl ?_
    refine AAny.take 4 (ARead.nilCheck rfl rfl rfl) rfl (by kernel_rfl) (by kernel_rfl) (by kernel_rfl) rfl rfl rfl ?_
    refine AAny.keep [11, 13] [11, 13] rfl rfl ?_
    first | refine AAny.take 5 (ARead.fieldAddrF tabOk rfl rfl rfl rfl (by decide) rfl) rfl (by kernel_rfl) (by kernel_rfl) (by kernel_rfl) rfl rfl rfl ?_ | refine AAny.take 5 (ARead.fieldAddr tabOk rfl rfl rfl rfl (by decide) rfl) rfl (by kernel_rfl) (by kernel_rfl) (by kernel_rfl) rfl rfl rfl ?_
    refine AAny.one 6 (by kernel_rfl) ?_
    refine AStep.op1 (AOp.buildSliceC tabOk rfl rfl rfl rfl rfl rfl rfl rfl rfl (by decide) (by decide)) rfl rfl rfl rfl ?_
    refine AAny.one 7 (by kernel_rfl) ?_
    refine AStep.read (ARead.assign rfl rfl) rfl rfl rfl rfl ?_
    refine AAny.done (by kernel_rfl) (hK7 _ _ _ ?_); clear hK7 K7
    try refine AWp.nilApp ?_
    refine AWp.keep [2] rfl ?_
    refine AWp.ret ?_
    refine ⟨Or.inr rfl, _, (.tmp _ _ _ _ rfl .nil), ?_⟩
    (try clear hK7 K7); (try clear hK6 K6); (try clear hK5 K5); (try clear hK4 K4); (try clear hK3 K3); (try clear hK2 K2); (try clear hK1 K1)
    exact ⟨_, rfl, rfl⟩
  · exfalso; have hc6 := hb6; clear hb6; try simp only [decide_eq_true_eq, decide_eq_false_iff_not, Bool.not_eq_true, Bool.not_eq_false, Int.not_lt, Int.not_le, Bool.not_eq_true', Bool.not_eq_false'] at hc6
    omega

theorem fields3_ok (x : En) (hk : x.op.kind = 3) (a : Nat) (N0 : Nat) : ACall Try.prog 132 [.ptr a 7 0 1] N0 [(a, vr (enA x))] (fun _ r H' => ∃ m, r = .sl m 1 0 1 (some 1) ∧ H' = [(m, vr [.ptr a 7 0 2]), (a, vr (enA x))]) := by
  refine ACall.of_body tabOk (tab := tab) (fn := Try.f132) Try.func132 (by kernel_rfl) rfl (by simp [Try.f132]) ?_
  show AWp Try.prog 31 _ N0 [(0, .ptr a 7 0 1)] [(a, vr (enA x))] _
  refine AWp.regK fun K1 hK1 => ?_
  refine AOps.read (ARead.assign rfl rfl) rfl rfl rfl ?_
  refine AOps.nil (hK1 _ _ _ ?_); clear hK1 K1
  refine AWp.keep [0] rfl ?_
  refine AWp.seqK fun K2 hK2 => ?_
  refine AWp.regK fun K3 hK3 => ?_
  refine AOps.read (ARead.move rfl rfl) rfl rfl rfl ?_
  refine AOps.read (ARead.nilCheck rfl rfl rfl) rfl rfl rfl ?_
  first | refine AOps.read (ARead.fieldAddrF tabOk rfl rfl rfl rfl (by decide) rfl) rfl rfl rfl ?_ | refine AOps.read (ARead.fieldAddr tabOk rfl rfl rfl rfl (by decide) rfl) rfl rfl rfl ?_
  first | refine AOps.read (ARead.loadF tabOk rfl rfl rfl rfl) rfl rfl rfl ?_ | refine AOps.read (ARead.load tabOk rfl rfl rfl (by repeat (first | exact Has.head _ | apply Has.tail)) (by first | decide | omega) rfl rfl) rfl rfl rfl ?_ | refine AOps.read (ARead.loadC tabOk rfl rfl rfl (by repeat (first | exact Has.head _ | apply Has.tail)) rfl rfl) rfl rfl rfl ?_
  refine AOps.nil (hK3 _ _ _ ?_); clear hK3 K3
  refine AWp.keep [0, 6] rfl ?_
  refine AWp.block ?_
  refine AWp.regK fun K5 hK5 => ?_
  refine AOps.read (ARead.binOp rfl rfl rfl rfl) rfl rfl rfl ?_
  refine AOps.read (ARead.assign rfl rfl) rfl rfl rfl ?_
  refine AOps.nil (hK5 _ _ _ ?_); clear hK5 K5
  refine AWp.keep [0, 6, 7] rfl ?_
  refine AWp.cond rfl (fun hb6 => ?_) (fun hb6 => ?_)
  · exfalso; have hc6 := hb6; clear hb6; try simp only [decide_eq_true_eq, decide_eq_false_iff_not, Bool.not_eq_true, Bool.not_eq_false, Int.not_lt, Int.not_le, Bool.not_eq_true', Bool.not_eq_false'] at hc6
    omega
  · have hc6 := hb6; clear hb6; try simp only [decide_eq_true_eq, decide_eq_false_iff_not, Bool.not_eq_true, Bool.not_eq_false, Int.not_lt, Int.not_le, Bool.not_eq_true', Bool.not_eq_false'] at hc6
    refine AWp.regK fun K7 hK7 => ?_
    refine AOps.read (ARead.binOp rfl rfl rfl rfl) rfl rfl rfl ?_
    refine AOps.read (ARead.assign rfl rfl) rfl rfl rfl ?_
    refine AOps.nil (hK7 _ _ _ ?_); clear hK7 K7
    refine AWp.keep [0, 6, 16] rfl ?_
    refine AWp.cond rfl (fun hb8 => ?_) (fun hb8 => ?_)
    · have hc8 := hb8; clear hb8; try simp only [decide_eq_true_eq, decide_eq_false_iff_not, Bool.not_eq_true, Bool.not_eq_false, Int.not_lt, Int.not_le, Bool.not_eq_true', Bool.not_eq_false'] at hc8
      refine AWp.regK fun K9 hK9 => ?_
      refine AOps.read (ARead.move rfl rfl) rfl rfl rfl ?_
      refine AOps.read (ARead.nilCheck rfl rfl rfl) rfl rfl rfl ?_
      first | refine AOps.read (ARead.fieldAddrF tabOk rfl rfl rfl rfl (by decide) rfl) rfl rfl rfl ?_ | refine AOps.read (ARead.fieldAddr tabOk rfl rfl rfl rfl (by decide) rfl) rfl rfl rfl ?_
      refine AOps.op1 (AOp.buildSliceC tabOk rfl rfl rfl rfl rfl rfl rfl rfl rfl (by decide) (by decide)) rfl rfl rfl ?_
      refine AOps.keep [21] rfl ?_
      refine AOps.read (ARead.assign rfl rfl) rfl rfl rfl ?_
      refine AOps.nil (hK9 _ _ _ ?_); clear hK9 K9
      refine AWp.keep [2] rfl ?_
      refine AWp.ret ?_
      refine ⟨Or.inr rfl, _, (.tmp _ _ _ _ rfl .nil), ?_⟩
      (try clear hK9 K9); (try clear hK8 K8); (try clear hK7 K7); (try clear hK6 K6); (try clear hK5 K5); (try clear hK4 K4); (try clear hK3 K3); (try clear hK2 K2); (try clear hK1 K1)
      exact ⟨_, rfl, rfl⟩
    · exfalso; have hc8 := hb8; clear hb8; try simp only [decide_eq_true_eq, decide_eq_false_iff_not, Bool.not_eq_true, Bool.not_eq_false, Int.not_lt, Int.not_le, Bool.not_eq_true', Bool.not_eq_false'] at hc8
      omega

theorem fields5_ok (x : En) (hk : x.op.kind = 5) (a : Nat) (N0 : Nat) : ACall Try.prog 132 [.ptr a 7 0 1] N0 [(a, vr (enA x))] (fun _ r H' => ∃ m, r = .sl m 1 0 2 (some 2) ∧ H' = [(m, vr [.ptr a 7 0 4, .ptr a 7 0 5]), (a, vr (enA x))]) := by
  refine ACall.of_body tabOk (tab := tab) (fn := Try.f132) Try.func132 (by kernel_rfl) rfl (by simp [Try.f132]) ?_
  show AWp Try.prog 31 _ N0 [(0, .ptr a 7 0 1)] [(a, vr (enA x))] _
  refine AWp.regK fun K1 hK1 => ?_
  refine AOps.read (ARead.assign rfl rfl) rfl rfl rfl ?_
  refine AOps.nil (hK1 _ _ _ ?_); clear hK1 K1
  refine AWp.keep [0] rfl ?_
  refine AWp.seqK fun K2 hK2 => ?_
  refine AWp.regK fun K3 hK3 => ?_
  refine AOps.read (ARead.move rfl rfl) rfl rfl rfl ?_
  refine AOps.read (ARead.nilCheck rfl rfl rfl) rfl rfl rfl ?_
  first | refine AOps.read (ARead.fieldAddrF tabOk rfl rfl rfl rfl (by decide) rfl) rfl rfl rfl ?_ | refine AOps.read (ARead.fieldAddr tabOk rfl rfl rfl rfl (by decide) rfl) rfl rfl rfl ?_
  first | refine AOps.read (ARead.loadF tabOk rfl rfl rfl rfl) rfl rfl rfl ?_ | refine AOps.read (ARead.load tabOk rfl rfl rfl (by repeat (first | exact Has.head _ | apply Has.tail)) (by first | decide | omega) rfl rfl) rfl rfl rfl ?_ | refine AOps.read (ARead.loadC tabOk rfl rfl rfl (by repeat (first | exact Has.head _ | apply Has.tail)) rfl rfl) rfl rfl rfl ?_
  refine AOps.nil (hK3 _ _ _ ?_); clear hK3 K3
  refine AWp.keep [0, 6] rfl ?_
  refine AWp.block ?_
  refine AWp.regK fun K5 hK5 => ?_
  refine AOps.read (ARead.binOp rfl rfl rfl rfl) rfl rfl rfl ?_
  refine AOps.read (ARead.assign rfl rfl) rfl rfl rfl ?_
  refine AOps.nil (hK5 _ _ _ ?_); clear hK5 K5
  refine AWp.keep [0, 6, 7] rfl ?_
  refine AWp.cond rfl (fun hb6 => ?_) (fun hb6 => ?_)
  · exfalso; have hc6 := hb6; clear hb6; try simp only [decide_eq_true_eq, decide_eq_false_iff_not, Bool.not_eq_true, Bool.not_eq_false, Int.not_lt, Int.not_le, Bool.not_eq_true', Bool.not_eq_false'] at hc6
    omega
  · have hc6 := hb6; clear hb6; try simp only [decide_eq_true_eq, decide_eq_false_iff_not, Bool.not_eq_true, Bool.not_eq_false, Int.not_lt, Int.not_le, Bool.not_eq_true', Bool.not_eq_false'] at hc6
    refine AWp.regK fun K7 hK7 => ?_
    refine AOps.read (ARead.binOp rfl rfl rfl rfl) rfl rfl rfl ?_
    refine AOps.read (ARead.assign rfl rfl) rfl rfl rfl ?_
    refine AOps.nil (hK7 _ _ _ ?_); clear hK7 K7
    refine AWp.keep [0, 6, 16] rfl ?_
    refine AWp.cond rfl (fun hb8 => ?_) (fun hb8 => ?_)
    · exfalso; have hc8 := hb8; clear hb8; try simp only [decide_eq_true_eq, decide_eq_false_iff_not, Bool.not_eq_true, Bool.not_eq_false, Int.not_lt, Int.not_le, Bool.not_eq_true', Bool.not_eq_false'] at hc8
      omega
    · have hc8 := hb8; clear hb8; try simp only [decide_eq_true_eq, decide_eq_false_iff_not, Bool.not_eq_true, Bool.not_eq_false, Int.not_lt, Int.not_le, Bool.not_eq_true', Bool.not_eq_false'] at hc8
      refine AWp.regK fun K9 hK9 => ?_
      refine AOps.read (ARead.binOp rfl rfl rfl rfl) rfl rfl rfl ?_
      refine AOps.read (ARead.assign rfl rfl) rfl rfl rfl ?_
      refine AOps.nil (hK9 _ _ _ ?_); clear hK9 K9
      refine AWp.keep [0, 22] rfl ?_
      refine AWp.cond rfl (fun hb10 => ?_) (fun hb10 => ?_)
      · have hc10 := hb10; clear hb10; try simp only [decide_eq_true_eq, decide_eq_false_iff_not, Bool.not_eq_true, Bool.not_eq_false, Int.not_lt, Int.not_le, Bool.not_eq_true', Bool.not_eq_false'] at hc10
        refine AWp.drawnK mixed (take_all _) fun K11 hK11 => ?_
        refine AAny.take 0 (ARead.move rfl rfl) rfl (by kernel_rfl) (by kernel_rfl) (by kernel_rfl) rfl rfl rfl ?_
        refine AAny.take 1 (ARead.nilCheck rfl rfl rfl) rfl (by kernel_rfl) (by kernel_rfl) (by kernel_rfl) rfl rfl rfl ?_
        refine AAny.keep [0, 25] [0, 25] rfl rfl ?_
        first | refine AAny.take 2 (ARead.fieldAddrF tabOk rfl rfl rfl rfl (by decide) rfl) rfl (by kernel_rfl) (by kernel_rfl) (by kernel_rfl) rfl rfl rfl ?_ | refine AAny.take 2 (ARead.fieldAddr tabOk rfl rfl rfl rfl (by decide) rfl) rfl (by kernel_rfl) (by kernel_rfl) (by kernel_rfl) rfl rfl rfl ?_
        refine AAny.take 3 (ARead.move rfl rfl) rfl (by kernel_rfl) (by kernel_rfl) (by kernel_rfl) rfl rfl rfl ?_
        refine AAny.take 4 (ARead.nilCheck rfl rfl rfl) rfl (by kernel_rfl) (by kernel_rfl) (by kernel_rfl) rfl rfl rfl ?_
        refine AAny.keep [26, 28] [26, 28] rfl rfl ?_
        first | refine AAny.take 5 (ARead.fieldAddrF tabOk rfl rfl rfl rfl (by decide) rfl) rfl (by kernel_rfl) (by kernel_rfl) (by kernel_rfl) rfl rfl rfl ?_ | refine AAny.take 5 (ARead.fieldAddr tabOk rfl rfl rfl rfl (by decide) rfl) rfl (by kernel_rfl) (by kernel_rfl) (by kernel_rfl) rfl rfl rfl ?_
        refine AAny.one 6 (by kernel_rfl) ?_
        refine AStep.op1 (AOp.buildSliceC tabOk rfl rfl rfl rfl rfl rfl rfl rfl rfl (by decide) (by decide)) rfl rfl rfl rfl ?_
        refine AAny.one 7 (by kernel_rfl) ?_
        refine AStep.read (ARead.assign rfl rfl) rfl rfl rfl rfl ?_
        refine AAny.done (by kernel_rfl) (hK11 _ _ _ ?_); clear hK11 K11
        try refine AWp.nilApp ?_
        refine AWp.keep [2] rfl ?_
        refine AWp.ret ?_
        refine ⟨Or.inr rfl, _, (.tmp _ _ _ _ rfl .nil), ?_⟩
        (try clear hK11 K11); (try clear hK10 K10); (try clear hK9 K9); (try clear hK8 K8); (try clear hK7 K7); (try clear hK6 K6); (try clear hK5 K5); (try clear hK4 K4); (try clear hK3 K3); (try clear hK2 K2); (try clear hK1 K1)
        exact ⟨_, rfl, rfl⟩
      · exfalso; have hc10 := hb10; clear hb10; try simp only [decide_eq_true_eq, decide_eq_false_iff_not, Bool.not_eq_true, Bool.not_eq_false, Int.not_lt, Int.not_le, Bool.not_eq_true', Bool.not_eq_false'] at hc10
        omega

end Go.Sl
