/- The walk of the law NodeWrites. No condition beside those in the statements. -/
import Derived.Test.YtfbagkifhpnfjaaRef6
import Derived.Test.YtfbagkifhpnfjaaLive13
namespace Go.Sl
open Go Go.Proofs 
set_option linter.unusedVariables false
set_option linter.unusedSimpArgs false
set_option maxRecDepth 20000
set_option maxHeartbeats 400000
theorem encB_len (n : Nd) : (bytesA (encBF n)).length ≤ 480 := by
  simp only [bytesA, List.length_map, encBF]; split
  · rename_i h; unfold encErrF at h; split at h
    · rename_i h1; exact absurd h h1
    · split at h
      · cases h
      · omega
  · simp

theorem lawNodeWrites_ok (n : Nd) (f : NdFit n) (key : Str) : APure Try.prog 9 [ndA n, vs key] (vb true) := by
  refine APure.intro fun N0 => ?_
  refine ACall.of_body tabOk (tab := tab) (fn := Try.f9) Try.func9 (by kernel_rfl) rfl (by simp [Try.f9]) ?_
  show AWp Try.prog 88 _ N0 [(0, ndA n), (1, vs key)] [] _
  refine AWp.regK fun K1 hK1 => ?_
  refine AOps.op1 (AOp.box rfl rfl rfl) rfl rfl rfl ?_
  refine AOps.read (ARead.assign rfl rfl) rfl rfl rfl ?_
  refine AOps.nil (hK1 _ _ _ ?_); clear hK1 K1
  refine AWp.keep [1, 2] rfl ?_
  refine AWp.regK fun K2 hK2 => ?_
  refine AOps.pcall (live13_ok) rfl (by first | exact .inr ⟨rfl, rfl, rfl⟩ | exact .inl rfl) rfl rfl rfl rfl (fun N hN => ?_)
  refine AOps.read (ARead.assign rfl rfl) rfl rfl rfl ?_
  refine AOps.nil (hK2 _ _ _ ?_); clear hK2 K2
  refine AWp.keep [1, 2, 5] rfl ?_
  refine AWp.seqK fun K3 hK3 => ?_
  refine AWp.regK fun K4 hK4 => ?_
  refine AOps.read (ARead.move rfl rfl) rfl rfl rfl ?_
  refine AOps.nil (hK4 _ _ _ ?_); clear hK4 K4
  refine AWp.keep [1, 2, 5, 16] rfl ?_
  refine AWp.block ?_
  refine AWp.loopP (α := Nat) [1, 2, 5, 16] (fun k N => [(1, vs key), (2, .ptr N0 5 0 0), (5, vb true), (16, vi k)]) (fun k N => [(N0, vr (ndC n))]) (fun k N => k ≤ 2) (fun k => 2 - k) (0) rfl (.cons _ _ _ _ _ _ (by repeat (first | exact Has.head _ | apply Has.tail)) (.nil _)) (Nat.zero_le _) (fun k N hN hg K6 hK6 => ?_)
  refine AWp.regK fun K7 hK7 => ?_
  refine AOps.read (ARead.binOp rfl rfl rfl rfl) rfl rfl rfl ?_
  refine AOps.nil (hK7 _ _ _ ?_); clear hK7 K7
  refine AWp.keep [1, 2, 5, 16, 17] rfl ?_
  refine AWp.seqK fun K8 hK8 => ?_
  refine AWp.cond rfl (fun hb9 => ?_) (fun hb9 => ?_)
  · have hc9 := hb9; clear hb9; try simp only [decide_eq_true_eq, decide_eq_false_iff_not, Bool.not_eq_true, Bool.not_eq_false, Int.not_lt, Int.not_le, Bool.not_eq_true', Bool.not_eq_false'] at hc9
    refine AWp.skip (hK8 _ _ _ ?_); try clear hK8 K8
    refine AWp.keep [1, 2, 5, 16] rfl ?_
    refine AWp.seqK fun K10 hK10 => ?_
    refine AWp.block ?_
    refine AWp.regK fun K12 hK12 => ?_
    refine AOps.read (ARead.load tabOk rfl rfl rfl (by repeat (first | exact Has.head _ | apply Has.tail)) (by first | decide | omega) rfl rfl) rfl rfl rfl ?_
    refine AOps.op ((AOp.call rfl (.inr ⟨rfl, rfl, rfl⟩) rfl (encA n f _)).frame (.nil _)) rfl rfl rfl ?_
    rintro N3 r3 H3 hN3 ⟨H3x, ⟨m3, rfl, rfl⟩, rfl⟩
    refine AOps.read (ARead.move rfl rfl) rfl rfl rfl ?_
    refine AOps.read (ARead.extract rfl rfl rfl) rfl rfl rfl ?_
    refine AOps.keep [1, 2, 5, 16, 18, 21] rfl ?_
    refine AOps.read (ARead.extract rfl rfl rfl) rfl rfl rfl ?_
    refine AOps.read (ARead.assign rfl rfl) rfl rfl rfl ?_
    refine AOps.read (ARead.assign rfl rfl) rfl rfl rfl ?_
    refine AOps.nil (hK12 _ _ _ ?_); clear hK12 K12
    refine AWp.keep [1, 2, 5, 6, 7, 16] rfl ?_
    refine AWp.regK fun K13 hK13 => ?_
    refine AOps.read (ARead.load tabOk rfl rfl rfl (by repeat (first | exact Has.head _ | apply Has.tail)) (by first | decide | omega) rfl rfl) rfl rfl rfl ?_
    refine AOps.op ((AOp.call rfl (.inr ⟨rfl, rfl, rfl⟩) rfl (encR n f _)).frame (.nil _)) rfl rfl rfl ?_
    rintro N4 r4 H4 hN4 ⟨H4x, ⟨m4, rfl, rfl⟩, rfl⟩
    refine AOps.read (ARead.move rfl rfl) rfl rfl rfl ?_
    refine AOps.read (ARead.extract rfl rfl rfl) rfl rfl rfl ?_
    refine AOps.keep [1, 2, 5, 6, 7, 16, 23, 26] rfl ?_
    refine AOps.read (ARead.extract rfl rfl rfl) rfl rfl rfl ?_
    refine AOps.read (ARead.assign rfl rfl) rfl rfl rfl ?_
    refine AOps.read (ARead.assign rfl rfl) rfl rfl rfl ?_
    refine AOps.nil (hK13 _ _ _ ?_); clear hK13 K13
    refine AWp.keep [1, 2, 5, 6, 7, 8, 9, 16] rfl ?_
    refine AWp.regK fun K14 hK14 => ?_
    refine AOps.read (ARead.load tabOk rfl rfl rfl (by repeat (first | exact Has.head _ | apply Has.tail)) (by first | decide | omega) rfl rfl) rfl rfl rfl ?_
    refine AOps.pcall (nodeSize_ok n f) rfl (by first | exact .inr ⟨rfl, rfl, rfl⟩ | exact .inl rfl) rfl rfl rfl rfl (fun N hN => ?_)
    refine AOps.read (ARead.move rfl rfl) rfl rfl rfl ?_
    refine AOps.read (ARead.extract rfl rfl rfl) rfl rfl rfl ?_
    refine AOps.keep [1, 2, 5, 6, 7, 8, 9, 16, 28, 31] rfl ?_
    refine AOps.read (ARead.extract rfl rfl rfl) rfl rfl rfl ?_
    refine AOps.read (ARead.assign rfl rfl) rfl rfl rfl ?_
    refine AOps.read (ARead.assign rfl rfl) rfl rfl rfl ?_
    refine AOps.nil (hK14 _ _ _ ?_); clear hK14 K14
    refine AWp.keep [1, 2, 5, 6, 7, 8, 9, 10, 11, 16] rfl ?_
    refine AWp.regK fun K15 hK15 => ?_
    refine AOps.read (ARead.load tabOk rfl rfl rfl (by repeat (first | exact Has.head _ | apply Has.tail)) (by first | decide | omega) rfl rfl) rfl rfl rfl ?_
    refine AOps.pcall (rSize_ok n f) rfl (by first | exact .inr ⟨rfl, rfl, rfl⟩ | exact .inl rfl) rfl rfl rfl rfl (fun N hN => ?_)
    refine AOps.read (ARead.move rfl rfl) rfl rfl rfl ?_
    refine AOps.read (ARead.extract rfl rfl rfl) rfl rfl rfl ?_
    refine AOps.keep [1, 2, 5, 6, 7, 8, 9, 10, 11, 16, 33, 36] rfl ?_
    refine AOps.read (ARead.extract rfl rfl rfl) rfl rfl rfl ?_
    refine AOps.read (ARead.assign rfl rfl) rfl rfl rfl ?_
    refine AOps.read (ARead.assign rfl rfl) rfl rfl rfl ?_
    refine AOps.nil (hK15 _ _ _ ?_); clear hK15 K15
    refine AWp.keep [1, 2, 5, 6, 7, 8, 9, 10, 11, 12, 13, 16] rfl ?_
    refine AWp.seqK fun K16 hK16 => ?_
    refine AWp.drawnK mixed (take_all _) fun K17 hK17 => ?_
    refine AAny.take 0 (ARead.move rfl rfl) rfl (by kernel_rfl) (by kernel_rfl) (by kernel_rfl) rfl rfl rfl ?_
    first | refine AAny.take 1 (ARead.bytesStr tabOk rfl rfl rfl rfl rfl rfl rfl rfl) rfl (by kernel_rfl) (by kernel_rfl) (by kernel_rfl) rfl rfl rfl ?_ | refine AAny.take 1 (ARead.rowStr tabOk _ rfl rfl rfl rfl rfl rfl rfl rfl (by repeat (first | exact Has.head _ | apply Has.tail)) rfl) rfl (by kernel_rfl) (by kernel_rfl) (by kernel_rfl) rfl rfl rfl ?_
    refine AAny.keep [1, 2, 7, 8, 9, 10, 11, 12, 13, 39] [1, 2, 5, 6, 7, 8, 9, 10, 11, 12, 13, 16, 39] rfl rfl ?_
    refine AAny.take 2 (ARead.move rfl rfl) rfl (by kernel_rfl) (by kernel_rfl) (by kernel_rfl) rfl rfl rfl ?_
    first | refine AAny.take 3 (ARead.bytesStr tabOk rfl rfl rfl rfl rfl rfl rfl rfl) rfl (by kernel_rfl) (by kernel_rfl) (by kernel_rfl) rfl rfl rfl ?_ | refine AAny.take 3 (ARead.rowStr tabOk _ rfl rfl rfl rfl rfl rfl rfl rfl (by repeat (first | exact Has.head _ | apply Has.tail)) rfl) rfl (by kernel_rfl) (by kernel_rfl) (by kernel_rfl) rfl rfl rfl ?_
    refine AAny.take 4 (ARead.binOp rfl rfl rfl rfl) rfl (by kernel_rfl) (by kernel_rfl) (by kernel_rfl) rfl rfl rfl ?_
    refine AAny.keep [1, 2, 7, 9, 10, 11, 12, 13, 42] [1, 2, 5, 6, 7, 9, 10, 11, 12, 13, 16, 42] rfl rfl ?_
    refine AAny.take 5 (ARead.move rfl rfl) rfl (by kernel_rfl) (by kernel_rfl) (by kernel_rfl) rfl rfl rfl ?_
    refine AAny.gtake 6 rfl rfl rfl rfl rfl (.cons 7 _ _ _ rfl (by first | exact .strip _ _ id | (refine .strip _ _ (fun h => ?_); simp_all; done) | exact .same _) .nil) (fun hG => ARead.move rfl rfl) rfl (by kernel_rfl) (by kernel_rfl) (by kernel_rfl) rfl rfl ?_
    refine AAny.gtake 7 rfl rfl rfl rfl rfl (.cons 9 _ _ _ rfl (by first | exact .strip _ _ id | (refine .strip _ _ (fun h => ?_); simp_all; done) | exact .same _) .nil) (fun hG => ARead.move rfl rfl) rfl (by kernel_rfl) (by kernel_rfl) (by kernel_rfl) rfl rfl ?_
    refine AAny.keep [1, 2, 10, 11, 12, 13, 43, 44, 45] [1, 2, 5, 6, 10, 11, 12, 13, 16, 43, 44, 45] rfl rfl ?_
    refine AAny.gtake 8 rfl rfl rfl rfl rfl (.cons 44 _ _ _ rfl (by first | exact .strip _ _ id | (refine .strip _ _ (fun h => ?_); simp_all; done) | exact .same _) (.cons 45 _ _ _ rfl (by first | exact .strip _ _ id | (refine .strip _ _ (fun h => ?_); simp_all; done) | exact .same _) .nil)) (fun hG => ARead.binOp rfl rfl rfl rfl) rfl (by kernel_rfl) (by kernel_rfl) (by kernel_rfl) rfl rfl ?_
    first | refine AAny.take 9 (ARead.pickB rfl rfl rfl (by first | exact .strip _ _ id | (refine .strip _ _ (fun h => ?_); simp_all; done) | exact .same _) rfl (by first | exact .strip _ _ id | (refine .strip _ _ (fun h => ?_); simp_all; done) | exact .same _)) rfl (by kernel_rfl) (by kernel_rfl) (by kernel_rfl) rfl rfl rfl ?_ | refine AAny.take 9 (ARead.pick rfl rfl rfl) rfl (by kernel_rfl) (by kernel_rfl) (by kernel_rfl) rfl rfl rfl ?_
    refine AAny.take 10 (ARead.move rfl rfl) rfl (by kernel_rfl) (by kernel_rfl) (by kernel_rfl) rfl rfl rfl ?_
    refine AAny.keep [1, 2, 10, 11, 12, 13, 48] [1, 2, 5, 6, 10, 11, 12, 13, 16, 48] rfl rfl ?_
    refine AAny.gtake 11 rfl rfl rfl rfl rfl (.cons 10 _ _ _ rfl (by first | exact .strip _ _ id | (refine .strip _ _ (fun h => ?_); simp_all; done) | exact .same _) .nil) (fun hG => ARead.move rfl rfl) rfl (by kernel_rfl) (by kernel_rfl) (by kernel_rfl) rfl rfl ?_
    refine AAny.gtake 12 rfl rfl rfl rfl rfl (.cons 12 _ _ _ rfl (by first | exact .strip _ _ id | (refine .strip _ _ (fun h => ?_); simp_all; done) | exact .same _) .nil) (fun hG => ARead.move rfl rfl) rfl (by kernel_rfl) (by kernel_rfl) (by kernel_rfl) rfl rfl ?_
    refine AAny.gtake 13 rfl rfl rfl rfl rfl (.cons 49 _ _ _ rfl (by first | exact .strip _ _ id | (refine .strip _ _ (fun h => ?_); simp_all; done) | exact .same _) (.cons 50 _ _ _ rfl (by first | exact .strip _ _ id | (refine .strip _ _ (fun h => ?_); simp_all; done) | exact .same _) .nil)) (fun hG => ARead.binOp rfl rfl rfl rfl) rfl (by kernel_rfl) (by kernel_rfl) (by kernel_rfl) rfl rfl ?_
    refine AAny.keep [1, 2, 11, 13, 48, 51] [1, 2, 5, 6, 11, 13, 16, 48, 51] rfl rfl ?_
    first | refine AAny.take 14 (ARead.pickB rfl rfl rfl (by first | exact .strip _ _ id | (refine .strip _ _ (fun h => ?_); simp_all; done) | exact .same _) rfl (by first | exact .strip _ _ id | (refine .strip _ _ (fun h => ?_); simp_all; done) | exact .same _)) rfl (by kernel_rfl) (by kernel_rfl) (by kernel_rfl) rfl rfl rfl ?_ | refine AAny.take 14 (ARead.pick rfl rfl rfl) rfl (by kernel_rfl) (by kernel_rfl) (by kernel_rfl) rfl rfl rfl ?_
    refine AAny.take 15 (ARead.move rfl rfl) rfl (by kernel_rfl) (by kernel_rfl) (by kernel_rfl) rfl rfl rfl ?_
    refine AAny.gtake 16 rfl rfl rfl rfl rfl (.cons 11 _ _ _ rfl (by first | exact .strip _ _ id | (refine .strip _ _ (fun h => ?_); simp_all; done) | exact .same _) .nil) (fun hG => ARead.move rfl rfl) rfl (by kernel_rfl) (by kernel_rfl) (by kernel_rfl) rfl rfl ?_
    refine AAny.keep [1, 2, 13, 53, 54] [1, 2, 5, 6, 13, 16, 53, 54] rfl rfl ?_
    refine AAny.gtake 17 rfl rfl rfl rfl rfl (.cons 13 _ _ _ rfl (by first | exact .strip _ _ id | (refine .strip _ _ (fun h => ?_); simp_all; done) | exact .same _) .nil) (fun hG => ARead.move rfl rfl) rfl (by kernel_rfl) (by kernel_rfl) (by kernel_rfl) rfl rfl ?_
    refine AAny.gtake 18 rfl rfl rfl rfl rfl (.cons 54 _ _ _ rfl (by first | exact .strip _ _ id | (refine .strip _ _ (fun h => ?_); simp_all; done) | exact .same _) (.cons 55 _ _ _ rfl (by first | exact .strip _ _ id | (refine .strip _ _ (fun h => ?_); simp_all; done) | exact .same _) .nil)) (fun hG => ARead.binOp rfl rfl rfl rfl) rfl (by kernel_rfl) (by kernel_rfl) (by kernel_rfl) rfl rfl ?_
    first | refine AAny.take 19 (ARead.pickB rfl rfl rfl (by first | exact .strip _ _ id | (refine .strip _ _ (fun h => ?_); simp_all; done) | exact .same _) rfl (by first | exact .strip _ _ id | (refine .strip _ _ (fun h => ?_); simp_all; done) | exact .same _)) rfl (by kernel_rfl) (by kernel_rfl) (by kernel_rfl) rfl rfl rfl ?_ | refine AAny.take 19 (ARead.pick rfl rfl rfl) rfl (by kernel_rfl) (by kernel_rfl) (by kernel_rfl) rfl rfl rfl ?_
    refine AAny.keep [1, 2, 57] [1, 2, 5, 6, 16, 57] rfl rfl ?_
    refine AAny.take 20 (ARead.move rfl rfl) rfl (by kernel_rfl) (by kernel_rfl) (by kernel_rfl) rfl rfl rfl ?_
    refine AAny.gtake 21 rfl rfl rfl rfl rfl (.cons 2 _ _ _ rfl (by first | exact .strip _ _ id | (refine .strip _ _ (fun h => ?_); simp_all; done) | exact .same _) .nil) (fun hG => ARead.load tabOk rfl rfl rfl (by repeat (first | exact Has.head _ | apply Has.tail)) (by first | decide | omega) rfl rfl) rfl (by kernel_rfl) (by kernel_rfl) (by kernel_rfl) rfl rfl ?_
    refine AAny.gtake 23 rfl rfl rfl rfl rfl (.cons 2 _ _ _ rfl (by first | exact .strip _ _ id | (refine .strip _ _ (fun h => ?_); simp_all; done) | exact .same _) .nil) (fun hG => ARead.load tabOk rfl rfl rfl (by repeat (first | exact Has.head _ | apply Has.tail)) (by first | decide | omega) rfl rfl) rfl (by kernel_rfl) (by kernel_rfl) (by kernel_rfl) rfl rfl ?_
    refine AAny.keep [1, 2, 58, 59, 61] [1, 2, 5, 6, 16, 58, 59, 61] rfl rfl ?_
    refine AAny.one 22 (by kernel_rfl) ?_
    refine AStep.gpcallC rfl rfl rfl rfl rfl (.cons 59 _ _ _ rfl (by first | exact .strip _ _ id | (refine .strip _ _ (fun h => ?_); simp_all; done) | exact .same _) .nil) rfl (by first | exact .inr ⟨rfl, rfl, rfl⟩ | exact .inl rfl) rfl (fun hG => nodeCheck_ok n f.ok) rfl rfl rfl rfl (fun N hN => ?_)
    refine AAny.one 24 (by kernel_rfl) ?_
    refine AStep.gpcallC rfl rfl rfl rfl rfl (.cons 61 _ _ _ rfl (by first | exact .strip _ _ id | (refine .strip _ _ (fun h => ?_); simp_all; done) | exact .same _) .nil) rfl (by first | exact .inr ⟨rfl, rfl, rfl⟩ | exact .inl rfl) rfl (fun hG => rCheck_ok n f.ok) rfl rfl rfl rfl (fun N hN => ?_)
    refine AAny.gtake 25 rfl rfl rfl rfl rfl (.cons 60 _ _ _ rfl (by first | exact .strip _ _ id | (refine .strip _ _ (fun h => ?_); simp_all; done) | exact .same _) (.cons 62 _ _ _ rfl (by first | exact .strip _ _ id | (refine .strip _ _ (fun h => ?_); simp_all; done) | exact .same _) .nil)) (fun hG => ARead.binOp rfl rfl rfl rfl) rfl (by kernel_rfl) (by kernel_rfl) (by kernel_rfl) rfl rfl ?_
    refine AAny.keep [1, 2, 58, 63] [1, 2, 5, 6, 16, 58, 63] rfl rfl ?_
    first | refine AAny.take 26 (ARead.pickB rfl rfl rfl (by first | exact .strip _ _ id | (refine .strip _ _ (fun h => ?_); simp_all; done) | exact .same _) rfl (by first | exact .strip _ _ id | (refine .strip _ _ (fun h => ?_); simp_all; done) | exact .same _)) rfl (by kernel_rfl) (by kernel_rfl) (by kernel_rfl) rfl rfl rfl ?_ | refine AAny.take 26 (ARead.pick rfl rfl rfl) rfl (by kernel_rfl) (by kernel_rfl) (by kernel_rfl) rfl rfl rfl ?_
    refine AAny.take 27 (ARead.move rfl rfl) rfl (by kernel_rfl) (by kernel_rfl) (by kernel_rfl) rfl rfl rfl ?_
    refine AAny.gtake 28 rfl rfl rfl rfl rfl (.cons 2 _ _ _ rfl (by first | exact .strip _ _ id | (refine .strip _ _ (fun h => ?_); simp_all; done) | exact .same _) .nil) (fun hG => ARead.load tabOk rfl rfl rfl (by repeat (first | exact Has.head _ | apply Has.tail)) (by first | decide | omega) rfl rfl) rfl (by kernel_rfl) (by kernel_rfl) (by kernel_rfl) rfl rfl ?_
    refine AAny.keep [1, 2, 65, 66] [1, 2, 5, 6, 16, 65, 66] rfl rfl ?_
    refine AAny.gtake 29 rfl rfl rfl rfl rfl (.cons 1 _ _ _ rfl (by first | exact .strip _ _ id | (refine .strip _ _ (fun h => ?_); simp_all; done) | exact .same _) .nil) (fun hG => ARead.move rfl rfl) rfl (by kernel_rfl) (by kernel_rfl) (by kernel_rfl) rfl rfl ?_
    refine AAny.gtake 31 rfl rfl rfl rfl rfl (.cons 2 _ _ _ rfl (by first | exact .strip _ _ id | (refine .strip _ _ (fun h => ?_); simp_all; done) | exact .same _) .nil) (fun hG => ARead.load tabOk rfl rfl rfl (by repeat (first | exact Has.head _ | apply Has.tail)) (by first | decide | omega) rfl rfl) rfl (by kernel_rfl) (by kernel_rfl) (by kernel_rfl) rfl rfl ?_
    refine AAny.gtake 32 rfl rfl rfl rfl rfl (.cons 1 _ _ _ rfl (by first | exact .strip _ _ id | (refine .strip _ _ (fun h => ?_); simp_all; done) | exact .same _) .nil) (fun hG => ARead.move rfl rfl) rfl (by kernel_rfl) (by kernel_rfl) (by kernel_rfl) rfl rfl ?_
    refine AAny.keep [65, 66, 67, 69, 70] [1, 2, 5, 6, 16, 65, 66, 67, 69, 70] rfl rfl ?_
    refine AAny.one 30 (by kernel_rfl) ?_
    refine AStep.gpcallC rfl rfl rfl rfl rfl (.cons 66 _ _ _ rfl (by first | exact .strip _ _ id | (refine .strip _ _ (fun h => ?_); simp_all; done) | exact .same _) (.cons 67 _ _ _ rfl (by first | exact .strip _ _ id | (refine .strip _ _ (fun h => ?_); simp_all; done) | exact .same _) .nil)) rfl (by first | exact .inr ⟨rfl, rfl, rfl⟩ | exact .inl rfl) rfl (fun hG => nodeChild_ok n key f.ok.pivots) rfl rfl rfl rfl (fun N hN => ?_)
    refine AAny.one 33 (by kernel_rfl) ?_
    refine AStep.gpcallC rfl rfl rfl rfl rfl (.cons 69 _ _ _ rfl (by first | exact .strip _ _ id | (refine .strip _ _ (fun h => ?_); simp_all; done) | exact .same _) (.cons 70 _ _ _ rfl (by first | exact .strip _ _ id | (refine .strip _ _ (fun h => ?_); simp_all; done) | exact .same _) .nil)) rfl (by first | exact .inr ⟨rfl, rfl, rfl⟩ | exact .inl rfl) rfl (fun hG => rChild_ok n key f.ok.pivots) rfl rfl rfl rfl (fun N hN => ?_)
    refine AAny.gtake 34 rfl rfl rfl rfl rfl (.cons 68 _ _ _ rfl (by first | exact .strip _ _ id | (refine .strip _ _ (fun h => ?_); simp_all; done) | exact .same _) (.cons 71 _ _ _ rfl (by first | exact .strip _ _ id | (refine .strip _ _ (fun h => ?_); simp_all; done) | exact .same _) .nil)) (fun hG => ARead.binOp rfl rfl rfl rfl) rfl (by kernel_rfl) (by kernel_rfl) (by kernel_rfl) rfl rfl ?_
    refine AAny.keep [65, 72] [1, 2, 5, 6, 16, 65, 72] rfl rfl ?_
    first | refine AAny.take 35 (ARead.pickB rfl rfl rfl (by first | exact .strip _ _ id | (refine .strip _ _ (fun h => ?_); simp_all; done) | exact .same _) rfl (by first | exact .strip _ _ id | (refine .strip _ _ (fun h => ?_); simp_all; done) | exact .same _)) rfl (by kernel_rfl) (by kernel_rfl) (by kernel_rfl) rfl rfl rfl ?_ | refine AAny.take 35 (ARead.pick rfl rfl rfl) rfl (by kernel_rfl) (by kernel_rfl) (by kernel_rfl) rfl rfl rfl ?_
    refine AAny.done (by kernel_rfl) (hK17 _ _ _ ?_); clear hK17 K17
    try refine AWp.nilApp ?_
    refine AWp.keep [1, 2, 5, 6, 16, 73] rfl ?_
    refine AWp.cond rfl (fun hb18 => ?_) (fun hb18 => ?_)
    · exfalso; have hc18 := hb18; clear hb18; try simp only [decide_eq_true_eq, decide_eq_false_iff_not, Bool.not_eq_true, Bool.not_eq_false, Int.not_lt, Int.not_le, Bool.not_eq_true', Bool.not_eq_false'] at hc18
      simp at hc18
    · have hc18 := hb18; clear hb18; try simp only [decide_eq_true_eq, decide_eq_false_iff_not, Bool.not_eq_true, Bool.not_eq_false, Int.not_lt, Int.not_le, Bool.not_eq_true', Bool.not_eq_false'] at hc18
      refine AWp.skip (hK16 _ _ _ ?_); try clear hK16 K16
      refine AWp.keep [1, 2, 5, 6, 16] rfl ?_
      refine AWp.regK fun K19 hK19 => ?_
      refine AOps.read (ARead.move rfl rfl) rfl rfl rfl ?_
      first | refine AOps.read (ARead.lenSl tabOk rfl rfl rfl rfl rfl) rfl rfl rfl ?_ | refine AOps.read (ARead.lenRow tabOk rfl rfl rfl rfl) rfl rfl rfl ?_
      refine AOps.read (ARead.move rfl rfl) rfl rfl rfl ?_
      refine AOps.nil (hK19 _ _ _ ?_); clear hK19 K19
      refine AWp.keep [1, 2, 5, 6, 16, 75, 76] rfl ?_
      refine AWp.block ?_
      refine AWp.loopP (α := Nat × List UInt8) [1, 2, 5, 6, 16, 75, 76] (fun x N => [(1, vs key), (2, .ptr N0 5 0 0), (5, vb true), (6, .row m3 (encNil n) (bytesA (encBF n)).length), (16, vi k), (75, vi (bytesA (encBF n)).length), (76, vi x.1)]) (fun x N => [(m3, .row 1 (encNil n) (bytesA x.2)), (N0, vr (ndC n))]) (fun x N => x.1 ≤ (bytesA (encBF n)).length ∧ x.2.length = (encBF n).length) (fun x => (bytesA (encBF n)).length - x.1) (0, encBF n) rfl (.cons _ _ _ _ _ _ (by repeat (first | exact Has.head _ | apply Has.tail)) (.cons _ _ _ _ _ _ (by repeat (first | exact Has.head _ | apply Has.tail)) (.nil _))) (⟨Nat.zero_le _, rfl⟩) (fun x N hN hg K21 hK21 => ?_)
      obtain ⟨hg1, hg2⟩ := hg
      have hbl := encB_len n
      refine AWp.regK fun K22 hK22 => ?_
      refine AOps.read (ARead.binOp rfl rfl rfl rfl) rfl rfl rfl ?_
      refine AOps.nil (hK22 _ _ _ ?_); clear hK22 K22
      refine AWp.keep [1, 2, 5, 6, 16, 75, 76, 77] rfl ?_
      refine AWp.seqK fun K23 hK23 => ?_
      refine AWp.cond rfl (fun hb24 => ?_) (fun hb24 => ?_)
      · have hc24 := hb24; clear hb24; try simp only [decide_eq_true_eq, decide_eq_false_iff_not, Bool.not_eq_true, Bool.not_eq_false, Int.not_lt, Int.not_le, Bool.not_eq_true', Bool.not_eq_false'] at hc24
        have hlt0 : x.1 < (bytesA (encBF n)).length := by omega
        have hlt : x.1 < x.2.length := by rw [hg2]; simpa [bytesA] using hlt0
        have hn := encNil_of hlt0
        rw [hn]
        refine AWp.skip (hK23 _ _ _ ?_); try clear hK23 K23
        refine AWp.keep [1, 2, 5, 6, 16, 75, 76] rfl ?_
        refine AWp.seqK fun K25 hK25 => ?_
        refine AWp.block ?_
        refine AWp.regK fun K27 hK27 => ?_
        refine AOps.read (ARead.move rfl rfl) rfl rfl rfl ?_
        refine AOps.read (ARead.assign rfl rfl) rfl rfl rfl ?_
        refine AOps.nil (hK27 _ _ _ ?_); clear hK27 K27
        refine AWp.keep [1, 2, 5, 6, 14, 16, 75, 76] rfl ?_
        refine AWp.region ?_
        refine AOps.read (ARead.move rfl rfl) rfl rfl rfl ?_
        refine AOps.read (ARead.move rfl rfl) rfl rfl rfl ?_
        refine AOps.read (ARead.indexAddrRow tabOk rfl rfl rfl rfl rfl rfl rfl (by omega) (by omega)) rfl rfl rfl ?_
        refine AOps.read (ARead.loadRowC (sz0 := 1) (sz := 1) (i := x.1) (j := 0) (r := .fv (.int .u8 ((x.2.getD x.1 0).toNat : Int))) tabOk rfl rfl rfl (by simp) (by repeat (first | exact Has.head _ | apply Has.tail)) (by simp only [bytesA, List.length_map]; omega) (by rw [bytesA_getD hlt]; rfl) rfl) rfl rfl rfl ?_
        refine AOps.keep [1, 2, 5, 6, 16, 75, 76, 79, 80, 82] rfl ?_
        refine AOps.read ((show ARead _ _ _ _ _ _ (.fv (.int .u8 ((((x.2.getD x.1 0) + 1 : UInt8)).toNat : Int))) from by rw [← byteInc]; exact ARead.binOp rfl rfl rfl rfl)) rfl rfl rfl ?_
        refine AOps.read (ARead.indexAddrRow tabOk rfl rfl rfl rfl rfl rfl rfl (by omega) (by omega)) rfl rfl rfl ?_
        refine AOps.op10 (AOp.storeRowC (sz0 := 1) (sz := 1) (i := x.1) (j := 0) tabOk rfl rfl rfl (by simp) rfl (by repeat (first | exact Has.head _ | apply Has.tail)) (by simp only [bytesA, List.length_map]; omega) rfl (by decide) rfl) rfl rfl ?_
        rw [bytesSet hlt]
        refine AOps.nil (hK25 _ _ _ ?_); try clear hK25 K25
        refine AWp.keep [1, 2, 5, 6, 16, 75, 76] rfl ?_
        refine AWp.region ?_
        first | refine AOps.read (ARead.binW rfl rfl rfl rfl (i64_ok (by omega) (by omega))) rfl rfl rfl ?_ | refine AOps.read (ARead.binOp rfl rfl rfl rfl) rfl rfl rfl ?_
        refine AOps.read (ARead.move rfl rfl) rfl rfl rfl ?_
        (try clear hK27 K27); (try clear hK26 K26); (try clear hK25 K25); (try clear hK24 K24); (try clear hK23 K23); (try clear hK22 K22); (try clear hK20 K20); (try clear hK19 K19); (try clear hK18 K18); (try clear hK17 K17); (try clear hK16 K16); (try clear hK15 K15); (try clear hK14 K14); (try clear hK13 K13); (try clear hK12 K12); (try clear hK11 K11); (try clear hK10 K10); (try clear hK9 K9); (try clear hK8 K8); (try clear hK7 K7); (try clear hK6 K6); (try clear hK5 K5); (try clear hK4 K4); (try clear hK3 K3); (try clear hK2 K2); (try clear hK1 K1)
        refine AOps.nil (hK21 _ _ _ (x.1 + 1, x.2.set x.1 ((x.2.getD x.1 0) + 1 : UInt8)) _ (by rw [hn]; rfl) (by rw [hn]; exact (.cons _ _ _ _ _ _ (by repeat (first | exact Has.head _ | apply Has.tail)) (.cons _ _ _ _ _ _ (by repeat (first | exact Has.head _ | apply Has.tail)) (.nil _)))) (⟨by show x.1 + 1 ≤ _; omega, by rw [List.length_set]; exact hg2⟩) (by show _ - (x.1 + 1) < _; omega))
      · have hc24 := hb24; clear hb24; try simp only [decide_eq_true_eq, decide_eq_false_iff_not, Bool.not_eq_true, Bool.not_eq_false, Int.not_lt, Int.not_le, Bool.not_eq_true', Bool.not_eq_false'] at hc24
        refine AWp.exit (Or.inl ⟨rfl, (hK10 _ _ _ ?_)⟩); try clear hK10 K10
        refine AWp.keep [1, 2, 5, 16] rfl ?_
        refine AWp.region ?_
        first | refine AOps.read (ARead.binW rfl rfl rfl rfl (i64_ok (by omega) (by omega))) rfl rfl rfl ?_ | refine AOps.read (ARead.binOp rfl rfl rfl rfl) rfl rfl rfl ?_
        refine AOps.read (ARead.move rfl rfl) rfl rfl rfl ?_
        (try clear hK27 K27); (try clear hK26 K26); (try clear hK25 K25); (try clear hK24 K24); (try clear hK23 K23); (try clear hK22 K22); (try clear hK21 K21); (try clear hK20 K20); (try clear hK19 K19); (try clear hK18 K18); (try clear hK17 K17); (try clear hK16 K16); (try clear hK15 K15); (try clear hK14 K14); (try clear hK13 K13); (try clear hK12 K12); (try clear hK11 K11); (try clear hK10 K10); (try clear hK9 K9); (try clear hK8 K8); (try clear hK7 K7); (try clear hK5 K5); (try clear hK4 K4); (try clear hK3 K3); (try clear hK2 K2); (try clear hK1 K1)
        refine AOps.nil (hK6 _ _ _ (k + 1) _ (by rfl) (.cons _ _ _ _ _ _ (by repeat (first | exact Has.head _ | apply Has.tail)) (.nil _)) (by omega) (by omega))
  · have hc9 := hb9; clear hb9; try simp only [decide_eq_true_eq, decide_eq_false_iff_not, Bool.not_eq_true, Bool.not_eq_false, Int.not_lt, Int.not_le, Bool.not_eq_true', Bool.not_eq_false'] at hc9
    refine AWp.exit (Or.inl ⟨rfl, (hK3 _ _ _ ?_)⟩); try clear hK3 K3
    refine AWp.keep [5] rfl ?_
    refine AWp.regK fun K28 hK28 => ?_
    refine AOps.read (ARead.move rfl rfl) rfl rfl rfl ?_
    refine AOps.read (ARead.assign rfl rfl) rfl rfl rfl ?_
    refine AOps.nil (hK28 _ _ _ ?_); clear hK28 K28
    refine AWp.keep [4] rfl ?_
    refine AWp.ret ?_
    refine ⟨Or.inr rfl, _, (.tmp _ _ _ _ rfl .nil), ?_⟩
    (try clear hK28 K28); (try clear hK27 K27); (try clear hK26 K26); (try clear hK25 K25); (try clear hK24 K24); (try clear hK23 K23); (try clear hK22 K22); (try clear hK21 K21); (try clear hK20 K20); (try clear hK19 K19); (try clear hK18 K18); (try clear hK17 K17); (try clear hK16 K16); (try clear hK15 K15); (try clear hK14 K14); (try clear hK13 K13); (try clear hK12 K12); (try clear hK11 K11); (try clear hK10 K10); (try clear hK9 K9); (try clear hK8 K8); (try clear hK7 K7); (try clear hK6 K6); (try clear hK5 K5); (try clear hK4 K4); (try clear hK3 K3); (try clear hK2 K2); (try clear hK1 K1)
    show packR _ = _
    rfl

end Go.Sl
