/- Walks of packages op and buffer, three. No condition beside those in the statements. -/
import Derived.Test.YtfbagkifhpnfjaaOp2
namespace Go.Sl
open Go Go.Proofs 
set_option linter.unusedVariables false
set_option linter.unusedSimpArgs false
set_option maxRecDepth 20000
set_option maxHeartbeats 400000
structure En where
  seq : Int
  op : O6
def en0 : En := ⟨0, o60⟩
abbrev enF (x : En) : List FV := .int .u64 x.seq :: o6F x.op
abbrev enA (x : En) : List AV := (enF x).map AV.fv
abbrev ens (nil : Bool) (l : List En) : AV := .fv (rowsF 7 nil enF en0 l)
abbrev o6s (nil : Bool) (l : List O6) : AV := .fv (rowsF 6 nil o6F o60 l)
def opAllF : List O6 → Int
  | [] => 0
  | o :: l => if checkOpF o ≠ 0 then checkOpF o else opAllF l
def bufCheckF : Option Int → List En → Int
  | _, [] => 0
  | last, x :: l => if checkOpF x.op ≠ 0 then checkOpF x.op else if fWri x.op.kind = false then 40 else if (match last with | some s => decide (x.seq ≤ s) | none => false) = true then 1 else bufCheckF (some x.seq) l
def lastSeq (l : List En) (i : Nat) : Option Int := if i = 0 then none else some (l.getD (i - 1) en0).seq

theorem opAll_ok (nil : Bool) (l : List O6) (hl : l.length ≤ 1073741824) : APure Try.prog 70 [o6s nil l] (vi (opAllF l)) := by
  refine APure.intro fun N0 => ?_
  refine ACall.of_body tabOk (tab := tab) (fn := Try.f70) Try.func70 (by kernel_rfl) rfl (by simp [Try.f70]) ?_
  show AWp Try.prog 18 _ N0 [(0, o6s nil l)] [] _
  refine AWp.regK fun K1 hK1 => ?_
  refine AOps.read (ARead.assign rfl rfl) rfl rfl rfl ?_
  refine AOps.nil (hK1 _ _ _ ?_); clear hK1 K1
  refine AWp.keep [0] rfl ?_
  refine AWp.seqK fun K2 hK2 => ?_
  refine AWp.regK fun K3 hK3 => ?_
  refine AOps.read (ARead.move rfl rfl) rfl rfl rfl ?_
  refine AOps.read (ARead.lenSl tabOk rfl rfl rfl rfl rfl) rfl rfl rfl ?_
  refine AOps.read (ARead.move rfl rfl) rfl rfl rfl ?_
  refine AOps.nil (hK3 _ _ _ ?_); clear hK3 K3
  refine AWp.keep [6, 7, 8] rfl ?_
  refine AWp.block ?_
  refine AWp.loopP (α := Nat) [6, 7, 8] (fun x N => [(6, o6s nil l), (7, vi l.length), (8, vi x)]) (fun x N => []) (fun x N => x ≤ l.length ∧ opAllF (l.drop x) = opAllF l) (fun x => l.length - x) (0) rfl (.nil _) (⟨Nat.zero_le _, rfl⟩) (fun x N hN hg K5 hK5 => ?_)
  obtain ⟨hg1, hg2⟩ := hg
  refine AWp.regK fun K6 hK6 => ?_
  refine AOps.read (ARead.binOp rfl rfl rfl rfl) rfl rfl rfl ?_
  refine AOps.nil (hK6 _ _ _ ?_); clear hK6 K6
  refine AWp.keep [6, 7, 8, 9] rfl ?_
  refine AWp.seqK fun K7 hK7 => ?_
  refine AWp.cond rfl (fun hb8 => ?_) (fun hb8 => ?_)
  · have hc8 := hb8; clear hb8; try simp only [decide_eq_true_eq, decide_eq_false_iff_not, Bool.not_eq_true, Bool.not_eq_false, Int.not_lt, Int.not_le, Bool.not_eq_true', Bool.not_eq_false'] at hc8
    have hlt : x < l.length := by omega
    rw [drop_getD o60 hlt] at hg2
    simp only [opAllF] at hg2
    refine AWp.skip (hK7 _ _ _ ?_); try clear hK7 K7
    refine AWp.keep [6, 7, 8] rfl ?_
    refine AWp.seqK fun K9 hK9 => ?_
    refine AWp.block ?_
    refine AWp.regK fun K11 hK11 => ?_
    refine AOps.read (ARead.indexAddrF tabOk rfl rfl rfl rfl rfl rfl rfl (by omega) (by omega)) rfl rfl rfl ?_
    refine AOps.read (ARead.loadF tabOk rfl rfl rfl rfl) rfl rfl rfl ?_
    refine AOps.op1 (AOp.alloc tabOk rfl rfl rfl) rfl rfl rfl ?_
    first | refine AOps.op10 (AOp.storeC tabOk rfl rfl rfl rfl (by repeat (first | exact Has.head _ | apply Has.tail)) rfl (Nat.le_of_ble_eq_true rfl) rfl) rfl rfl ?_ | refine AOps.op10 (AOp.store tabOk rfl rfl rfl rfl (by repeat (first | exact Has.head _ | apply Has.tail)) (by first | decide | omega) rfl (by decide) rfl) rfl rfl ?_
    refine AOps.nil (hK11 _ _ _ ?_); clear hK11 K11
    refine AWp.keep [4, 6, 7, 8] rfl ?_
    refine AWp.regK fun K12 hK12 => ?_
    refine AOps.read (ARead.load tabOk rfl rfl rfl (by repeat (first | exact Has.head _ | apply Has.tail)) (by first | decide | omega) rfl rfl) rfl rfl rfl ?_
    refine AOps.pcall (checkOp_ok _) rfl (by first | exact .inr ⟨rfl, rfl, rfl⟩ | exact .inl rfl) rfl rfl rfl rfl (fun N hN => ?_)
    refine AOps.read (ARead.assign rfl rfl) rfl rfl rfl ?_
    refine AOps.nil (hK12 _ _ _ ?_); clear hK12 K12
    refine AWp.keep [5, 6, 7, 8] rfl ?_
    refine AWp.regK fun K13 hK13 => ?_
    refine AOps.read (ARead.move rfl rfl) rfl rfl rfl ?_
    refine AOps.read (ARead.binOp rfl rfl rfl rfl) rfl rfl rfl ?_
    refine AOps.nil (hK13 _ _ _ ?_); clear hK13 K13
    refine AWp.keep [5, 6, 7, 8, 15] rfl ?_
    refine AWp.cond rfl (fun hb14 => ?_) (fun hb14 => ?_)
    · have hc14 := hb14; clear hb14; try simp only [decide_eq_true_eq, decide_eq_false_iff_not, Bool.not_eq_true, Bool.not_eq_false, Int.not_lt, Int.not_le, Bool.not_eq_true', Bool.not_eq_false'] at hc14
      refine AWp.regK fun K15 hK15 => ?_
      refine AOps.read (ARead.move rfl rfl) rfl rfl rfl ?_
      refine AOps.read (ARead.assign rfl rfl) rfl rfl rfl ?_
      refine AOps.nil (hK15 _ _ _ ?_); clear hK15 K15
      refine AWp.keep [2] rfl ?_
      refine AWp.ret ?_
      refine ⟨Or.inr rfl, _, (.tmp _ _ _ _ rfl .nil), ?_⟩
      (try clear hK15 K15); (try clear hK14 K14); (try clear hK13 K13); (try clear hK12 K12); (try clear hK11 K11); (try clear hK10 K10); (try clear hK9 K9); (try clear hK8 K8); (try clear hK7 K7); (try clear hK6 K6); (try clear hK5 K5); (try clear hK4 K4); (try clear hK3 K3); (try clear hK2 K2); (try clear hK1 K1)
      show packR _ = _
      simp only [packR, Int.toNat_natCast] at *; grind
    · have hc14 := hb14; clear hb14; try simp only [decide_eq_true_eq, decide_eq_false_iff_not, Bool.not_eq_true, Bool.not_eq_false, Int.not_lt, Int.not_le, Bool.not_eq_true', Bool.not_eq_false'] at hc14
      refine AWp.skip (hK9 _ _ _ ?_); try clear hK9 K9
      refine AWp.keep [6, 7, 8] rfl ?_
      refine AWp.region ?_
      first | refine AOps.read (ARead.binW rfl rfl rfl rfl (i64_ok (by omega) (by omega))) rfl rfl rfl ?_ | refine AOps.read (ARead.binOp rfl rfl rfl rfl) rfl rfl rfl ?_
      refine AOps.read (ARead.move rfl rfl) rfl rfl rfl ?_
      (try clear hK15 K15); (try clear hK14 K14); (try clear hK13 K13); (try clear hK12 K12); (try clear hK11 K11); (try clear hK10 K10); (try clear hK9 K9); (try clear hK8 K8); (try clear hK7 K7); (try clear hK6 K6); (try clear hK4 K4); (try clear hK3 K3); (try clear hK2 K2); (try clear hK1 K1)
      refine AOps.nil (hK5 _ _ _ (x + 1) _ (by rfl) (.nil _) (by simp only [Int.toNat_natCast] at *; grind) (by grind))
  · have hc8 := hb8; clear hb8; try simp only [decide_eq_true_eq, decide_eq_false_iff_not, Bool.not_eq_true, Bool.not_eq_false, Int.not_lt, Int.not_le, Bool.not_eq_true', Bool.not_eq_false'] at hc8
    rw [List.drop_of_length_le (by omega)] at hg2
    simp only [opAllF] at hg2
    refine AWp.exit (Or.inl ⟨rfl, (hK2 _ _ _ ?_)⟩); try clear hK2 K2
    refine AWp.keep [] rfl ?_
    refine AWp.regK fun K16 hK16 => ?_
    refine AOps.read (ARead.assign rfl rfl) rfl rfl rfl ?_
    refine AOps.nil (hK16 _ _ _ ?_); clear hK16 K16
    refine AWp.keep [2] rfl ?_
    refine AWp.ret ?_
    refine ⟨Or.inr rfl, _, (.tmp _ _ _ _ rfl .nil), ?_⟩
    (try clear hK16 K16); (try clear hK15 K15); (try clear hK14 K14); (try clear hK13 K13); (try clear hK12 K12); (try clear hK11 K11); (try clear hK10 K10); (try clear hK9 K9); (try clear hK8 K8); (try clear hK7 K7); (try clear hK6 K6); (try clear hK5 K5); (try clear hK4 K4); (try clear hK3 K3); (try clear hK2 K2); (try clear hK1 K1)
    show packR _ = _
    simp only [packR, Int.toNat_natCast] at *; grind

theorem bufCheck_ok (nil : Bool) (l : List En) (hl : l.length ≤ 1073741824) : APure Try.prog 46 [ens nil l] (vi (bufCheckF none l)) := by
  refine APure.intro fun N0 => ?_
  refine ACall.of_body tabOk (tab := tab) (fn := Try.f46) Try.func46 (by kernel_rfl) rfl (by simp [Try.f46]) ?_
  show AWp Try.prog 37 _ N0 [(0, ens nil l)] [] _
  refine AWp.regK fun K1 hK1 => ?_
  refine AOps.read (ARead.assign rfl rfl) rfl rfl rfl ?_
  refine AOps.nil (hK1 _ _ _ ?_); clear hK1 K1
  refine AWp.keep [0] rfl ?_
  refine AWp.seqK fun K2 hK2 => ?_
  refine AWp.regK fun K3 hK3 => ?_
  refine AOps.read (ARead.move rfl rfl) rfl rfl rfl ?_
  refine AOps.read (ARead.lenSl tabOk rfl rfl rfl rfl rfl) rfl rfl rfl ?_
  refine AOps.read (ARead.move rfl rfl) rfl rfl rfl ?_
  refine AOps.nil (hK3 _ _ _ ?_); clear hK3 K3
  refine AWp.keep [0, 6, 7, 8] rfl ?_
  refine AWp.block ?_
  refine AWp.loopP (α := Nat) [0, 6, 7, 8] (fun x N => [(0, ens nil l), (6, ens nil l), (7, vi l.length), (8, vi x)]) (fun x N => []) (fun x N => x ≤ l.length ∧ bufCheckF (lastSeq l x) (l.drop x) = bufCheckF none l) (fun x => l.length - x) (0) rfl (.nil _) (⟨Nat.zero_le _, rfl⟩) (fun x N hN hg K5 hK5 => ?_)
  obtain ⟨hg1, hg2⟩ := hg
  refine AWp.regK fun K6 hK6 => ?_
  refine AOps.read (ARead.binOp rfl rfl rfl rfl) rfl rfl rfl ?_
  refine AOps.nil (hK6 _ _ _ ?_); clear hK6 K6
  refine AWp.keep [0, 6, 7, 8, 9] rfl ?_
  refine AWp.seqK fun K7 hK7 => ?_
  refine AWp.cond rfl (fun hb8 => ?_) (fun hb8 => ?_)
  · have hc8 := hb8; clear hb8; try simp only [decide_eq_true_eq, decide_eq_false_iff_not, Bool.not_eq_true, Bool.not_eq_false, Int.not_lt, Int.not_le, Bool.not_eq_true', Bool.not_eq_false'] at hc8
    have hlt : x < l.length := by omega
    rw [drop_getD en0 hlt] at hg2
    simp only [bufCheckF] at hg2
    refine AWp.skip (hK7 _ _ _ ?_); try clear hK7 K7
    refine AWp.keep [0, 6, 7, 8] rfl ?_
    refine AWp.seqK fun K9 hK9 => ?_
    refine AWp.block ?_
    refine AWp.regK fun K11 hK11 => ?_
    refine AOps.read (ARead.move rfl rfl) rfl rfl rfl ?_
    refine AOps.read (ARead.indexAddrF tabOk rfl rfl rfl rfl rfl rfl rfl (by omega) (by omega)) rfl rfl rfl ?_
    refine AOps.read (ARead.loadF tabOk rfl rfl rfl rfl) rfl rfl rfl ?_
    refine AOps.op1 (AOp.alloc tabOk rfl rfl rfl) rfl rfl rfl ?_
    refine AOps.keep [0, 4, 6, 7, 8, 10, 12] rfl ?_
    refine AOps.read (ARead.assign rfl rfl) rfl rfl rfl ?_
    first | refine AOps.op10 (AOp.storeC tabOk rfl rfl rfl rfl (by repeat (first | exact Has.head _ | apply Has.tail)) rfl (Nat.le_of_ble_eq_true rfl) rfl) rfl rfl ?_ | refine AOps.op10 (AOp.store tabOk rfl rfl rfl rfl (by repeat (first | exact Has.head _ | apply Has.tail)) (by first | decide | omega) rfl (by decide) rfl) rfl rfl ?_
    refine AOps.nil (hK11 _ _ _ ?_); clear hK11 K11
    refine AWp.keep [0, 3, 4, 6, 7, 8] rfl ?_
    refine AWp.seqK fun K12 hK12 => ?_
    refine AWp.regK fun K13 hK13 => ?_
    refine AOps.read (ARead.fieldAddr tabOk rfl rfl rfl rfl (by decide) rfl) rfl rfl rfl ?_
    refine AOps.read (ARead.load tabOk rfl rfl rfl (by repeat (first | exact Has.head _ | apply Has.tail)) (by first | decide | omega) rfl rfl) rfl rfl rfl ?_
    refine AOps.pcall (checkOp_ok _) rfl (by first | exact .inr ⟨rfl, rfl, rfl⟩ | exact .inl rfl) rfl rfl rfl rfl (fun N hN => ?_)
    refine AOps.read (ARead.assign rfl rfl) rfl rfl rfl ?_
    refine AOps.nil (hK13 _ _ _ ?_); clear hK13 K13
    refine AWp.keep [0, 3, 4, 5, 6, 7, 8] rfl ?_
    refine AWp.regK fun K14 hK14 => ?_
    refine AOps.read (ARead.move rfl rfl) rfl rfl rfl ?_
    refine AOps.read (ARead.binOp rfl rfl rfl rfl) rfl rfl rfl ?_
    refine AOps.nil (hK14 _ _ _ ?_); clear hK14 K14
    refine AWp.keep [0, 3, 4, 5, 6, 7, 8, 17] rfl ?_
    refine AWp.cond rfl (fun hb15 => ?_) (fun hb15 => ?_)
    · have hc15 := hb15; clear hb15; try simp only [decide_eq_true_eq, decide_eq_false_iff_not, Bool.not_eq_true, Bool.not_eq_false, Int.not_lt, Int.not_le, Bool.not_eq_true', Bool.not_eq_false'] at hc15
      refine AWp.regK fun K16 hK16 => ?_
      refine AOps.read (ARead.move rfl rfl) rfl rfl rfl ?_
      refine AOps.read (ARead.assign rfl rfl) rfl rfl rfl ?_
      refine AOps.nil (hK16 _ _ _ ?_); clear hK16 K16
      refine AWp.keep [2] rfl ?_
      refine AWp.ret ?_
      refine ⟨Or.inr rfl, _, (.tmp _ _ _ _ rfl .nil), ?_⟩
      (try clear hK16 K16); (try clear hK15 K15); (try clear hK14 K14); (try clear hK13 K13); (try clear hK12 K12); (try clear hK11 K11); (try clear hK10 K10); (try clear hK9 K9); (try clear hK8 K8); (try clear hK7 K7); (try clear hK6 K6); (try clear hK5 K5); (try clear hK4 K4); (try clear hK3 K3); (try clear hK2 K2); (try clear hK1 K1)
      show packR _ = _
      have e : ((x : Int) - 1).toNat = x - 1 := (by omega); (simp only [packR, Int.toNat_natCast, e, lastSeq] at *) <;> (rw [← hg2]) <;> (cases x <;> simp_all)
    · have hc15 := hb15; clear hb15; try simp only [decide_eq_true_eq, decide_eq_false_iff_not, Bool.not_eq_true, Bool.not_eq_false, Int.not_lt, Int.not_le, Bool.not_eq_true', Bool.not_eq_false'] at hc15
      refine AWp.skip (hK12 _ _ _ ?_); try clear hK12 K12
      refine AWp.keep [0, 3, 4, 6, 7, 8] rfl ?_
      refine AWp.seqK fun K17 hK17 => ?_
      refine AWp.regK fun K18 hK18 => ?_
      refine AOps.read (ARead.fieldAddr tabOk rfl rfl rfl rfl (by decide) rfl) rfl rfl rfl ?_
      refine AOps.read (ARead.load tabOk rfl rfl rfl (by repeat (first | exact Has.head _ | apply Has.tail)) (by first | decide | omega) rfl rfl) rfl rfl rfl ?_
      refine AOps.pcall (writes_ok _) rfl (by first | exact .inr ⟨rfl, rfl, rfl⟩ | exact .inl rfl) rfl rfl rfl rfl (fun N hN => ?_)
      refine AOps.read (ARead.unOp rfl rfl rfl) rfl rfl rfl ?_
      refine AOps.nil (hK18 _ _ _ ?_); clear hK18 K18
      refine AWp.keep [0, 3, 4, 6, 7, 8, 22] rfl ?_
      refine AWp.cond rfl (fun hb19 => ?_) (fun hb19 => ?_)
      · have hc19 := hb19; clear hb19; try simp only [decide_eq_true_eq, decide_eq_false_iff_not, Bool.not_eq_true, Bool.not_eq_false, Int.not_lt, Int.not_le, Bool.not_eq_true', Bool.not_eq_false'] at hc19
        refine AWp.regK fun K20 hK20 => ?_
        refine AOps.read (ARead.assign rfl rfl) rfl rfl rfl ?_
        refine AOps.nil (hK20 _ _ _ ?_); clear hK20 K20
        refine AWp.keep [2] rfl ?_
        refine AWp.ret ?_
        refine ⟨Or.inr rfl, _, (.tmp _ _ _ _ rfl .nil), ?_⟩
        (try clear hK20 K20); (try clear hK19 K19); (try clear hK18 K18); (try clear hK17 K17); (try clear hK16 K16); (try clear hK15 K15); (try clear hK14 K14); (try clear hK13 K13); (try clear hK12 K12); (try clear hK11 K11); (try clear hK10 K10); (try clear hK9 K9); (try clear hK8 K8); (try clear hK7 K7); (try clear hK6 K6); (try clear hK5 K5); (try clear hK4 K4); (try clear hK3 K3); (try clear hK2 K2); (try clear hK1 K1)
        show packR _ = _
        have e : ((x : Int) - 1).toNat = x - 1 := (by omega); (simp only [packR, Int.toNat_natCast, e, lastSeq] at *) <;> (rw [← hg2]) <;> (cases x <;> simp_all)
      · have hc19 := hb19; clear hb19; try simp only [decide_eq_true_eq, decide_eq_false_iff_not, Bool.not_eq_true, Bool.not_eq_false, Int.not_lt, Int.not_le, Bool.not_eq_true', Bool.not_eq_false'] at hc19
        refine AWp.skip (hK17 _ _ _ ?_); try clear hK17 K17
        refine AWp.keep [0, 3, 4, 6, 7, 8] rfl ?_
        refine AWp.drawnK mixed (take_all _) fun K21 hK21 => ?_
        refine AAny.take 0 (ARead.move rfl rfl) rfl (by kernel_rfl) (by kernel_rfl) (by kernel_rfl) rfl rfl rfl ?_
        refine AAny.take 1 (ARead.binOp rfl rfl rfl rfl) rfl (by kernel_rfl) (by kernel_rfl) (by kernel_rfl) rfl rfl rfl ?_
        refine AAny.keep [0, 3, 4, 24] [0, 3, 4, 6, 7, 8, 24] rfl rfl ?_
        refine AAny.take 2 (ARead.move rfl rfl) rfl (by kernel_rfl) (by kernel_rfl) (by kernel_rfl) rfl rfl rfl ?_
        refine AAny.gtake 3 rfl rfl rfl rfl rfl (.cons 0 _ _ _ rfl (by first | exact .strip _ _ id | (refine .strip _ _ (fun h => ?_); simp_all; done) | exact .same _) .nil) (fun hG => ARead.move rfl rfl) rfl (by kernel_rfl) (by kernel_rfl) (by kernel_rfl) rfl rfl ?_
        refine AAny.gtake 4 rfl rfl rfl rfl rfl (.cons 3 _ _ _ rfl (by first | exact .strip _ _ id | (refine .strip _ _ (fun h => ?_); simp_all; done) | exact .same _) .nil) (fun hG => ARead.move rfl rfl) rfl (by kernel_rfl) (by kernel_rfl) (by kernel_rfl) rfl rfl ?_
        refine AAny.keep [4, 25, 26, 27] [0, 4, 6, 7, 8, 25, 26, 27] rfl rfl ?_
        first | refine AAny.gtake 5 rfl rfl rfl rfl rfl (.cons 27 _ _ _ rfl (by first | exact .strip _ _ id | (refine .strip _ _ (fun h => ?_); simp_all; done) | exact .same _) .nil) (fun hG => ARead.binW rfl rfl rfl rfl (i64_ok (by first | omega | (simp at hG; omega)) (by first | omega | (simp at hG; omega)))) rfl (by kernel_rfl) (by kernel_rfl) (by kernel_rfl) rfl rfl ?_ | refine AAny.gtake 5 rfl rfl rfl rfl rfl (.cons 27 _ _ _ rfl (by first | exact .strip _ _ id | (refine .strip _ _ (fun h => ?_); simp_all; done) | exact .same _) .nil) (fun hG => ARead.binOp rfl rfl rfl rfl) rfl (by kernel_rfl) (by kernel_rfl) (by kernel_rfl) rfl rfl ?_
        refine AAny.gtake 6 rfl rfl rfl rfl rfl (.cons 26 _ _ _ rfl (by first | exact .strip _ _ id | (refine .strip _ _ (fun h => ?_); simp_all; done) | exact .same _) (.cons 28 _ _ _ rfl (by first | exact .strip _ _ id | (refine .strip _ _ (fun h => ?_); simp_all; done) | exact .same _) .nil)) (fun hG => ARead.indexAddrF tabOk rfl rfl rfl rfl rfl rfl rfl (by first | omega | (simp at hG; omega)) (by first | omega | (simp at hG; omega))) rfl (by kernel_rfl) (by kernel_rfl) (by kernel_rfl) rfl rfl ?_
        refine AAny.gtake 7 rfl rfl rfl rfl rfl (.cons 29 _ _ _ rfl (by first | exact .strip _ _ id | (refine .strip _ _ (fun h => ?_); simp_all; done) | exact .same _) .nil) (fun hG => ARead.fieldAddrF tabOk rfl rfl rfl rfl (by decide) rfl) rfl (by kernel_rfl) (by kernel_rfl) (by kernel_rfl) rfl rfl ?_
        refine AAny.keep [4, 25, 30] [0, 4, 6, 7, 8, 25, 30] rfl rfl ?_
        refine AAny.gtake 8 rfl rfl rfl rfl rfl (.cons 30 _ _ _ rfl (by first | exact .strip _ _ id | (refine .strip _ _ (fun h => ?_); simp_all; done) | exact .same _) .nil) (fun hG => ARead.loadF tabOk rfl rfl rfl rfl) rfl (by kernel_rfl) (by kernel_rfl) (by kernel_rfl) rfl rfl ?_
        refine AAny.gtake 9 rfl rfl rfl rfl rfl (.cons 4 _ _ _ rfl (by first | exact .strip _ _ id | (refine .strip _ _ (fun h => ?_); simp_all; done) | exact .same _) .nil) (fun hG => ARead.fieldAddr tabOk rfl rfl rfl rfl (by decide) rfl) rfl (by kernel_rfl) (by kernel_rfl) (by kernel_rfl) rfl rfl ?_
        refine AAny.gtake 10 rfl rfl rfl rfl rfl (.cons 32 _ _ _ rfl (by first | exact .strip _ _ id | (refine .strip _ _ (fun h => ?_); simp_all; done) | exact .same _) .nil) (fun hG => ARead.load tabOk rfl rfl rfl (by repeat (first | exact Has.head _ | apply Has.tail)) (by first | decide | omega) rfl rfl) rfl (by kernel_rfl) (by kernel_rfl) (by kernel_rfl) rfl rfl ?_
        refine AAny.keep [25, 31, 33] [0, 6, 7, 8, 25, 31, 33] rfl rfl ?_
        refine AAny.gtake 11 rfl rfl rfl rfl rfl (.cons 31 _ _ _ rfl (by first | exact .strip _ _ id | (refine .strip _ _ (fun h => ?_); simp_all; done) | exact .same _) (.cons 33 _ _ _ rfl (by first | exact .strip _ _ id | (refine .strip _ _ (fun h => ?_); simp_all; done) | exact .same _) .nil)) (fun hG => ARead.binOp rfl rfl rfl rfl) rfl (by kernel_rfl) (by kernel_rfl) (by kernel_rfl) rfl rfl ?_
        first | refine AAny.take 12 (ARead.pickB rfl rfl rfl (by first | exact .strip _ _ id | (refine .strip _ _ (fun h => ?_); simp_all; done) | exact .same _) rfl (by first | exact .strip _ _ id | (refine .strip _ _ (fun h => ?_); simp_all; done) | exact .same _)) rfl (by kernel_rfl) (by kernel_rfl) (by kernel_rfl) rfl rfl rfl ?_ | refine AAny.take 12 (ARead.pick rfl rfl rfl) rfl (by kernel_rfl) (by kernel_rfl) (by kernel_rfl) rfl rfl rfl ?_
        refine AAny.done (by kernel_rfl) (hK21 _ _ _ ?_); clear hK21 K21
        try refine AWp.nilApp ?_
        refine AWp.keep [0, 6, 7, 8, 35] rfl ?_
        refine AWp.cond rfl (fun hb22 => ?_) (fun hb22 => ?_)
        · have hc22 := hb22; clear hb22; try simp only [decide_eq_true_eq, decide_eq_false_iff_not, Bool.not_eq_true, Bool.not_eq_false, Int.not_lt, Int.not_le, Bool.not_eq_true', Bool.not_eq_false'] at hc22
          refine AWp.regK fun K23 hK23 => ?_
          refine AOps.read (ARead.assign rfl rfl) rfl rfl rfl ?_
          refine AOps.nil (hK23 _ _ _ ?_); clear hK23 K23
          refine AWp.keep [2] rfl ?_
          refine AWp.ret ?_
          refine ⟨Or.inr rfl, _, (.tmp _ _ _ _ rfl .nil), ?_⟩
          (try clear hK23 K23); (try clear hK22 K22); (try clear hK21 K21); (try clear hK20 K20); (try clear hK19 K19); (try clear hK18 K18); (try clear hK17 K17); (try clear hK16 K16); (try clear hK15 K15); (try clear hK14 K14); (try clear hK13 K13); (try clear hK12 K12); (try clear hK11 K11); (try clear hK10 K10); (try clear hK9 K9); (try clear hK8 K8); (try clear hK7 K7); (try clear hK6 K6); (try clear hK5 K5); (try clear hK4 K4); (try clear hK3 K3); (try clear hK2 K2); (try clear hK1 K1)
          show packR _ = _
          have e : ((x : Int) - 1).toNat = x - 1 := (by omega); (simp only [packR, Int.toNat_natCast, e, lastSeq] at *) <;> (rw [← hg2]) <;> (cases x <;> simp_all)
        · have hc22 := hb22; clear hb22; try simp only [decide_eq_true_eq, decide_eq_false_iff_not, Bool.not_eq_true, Bool.not_eq_false, Int.not_lt, Int.not_le, Bool.not_eq_true', Bool.not_eq_false'] at hc22
          refine AWp.skip (hK9 _ _ _ ?_); try clear hK9 K9
          refine AWp.keep [0, 6, 7, 8] rfl ?_
          refine AWp.region ?_
          first | refine AOps.read (ARead.binW rfl rfl rfl rfl (i64_ok (by omega) (by omega))) rfl rfl rfl ?_ | refine AOps.read (ARead.binOp rfl rfl rfl rfl) rfl rfl rfl ?_
          refine AOps.read (ARead.move rfl rfl) rfl rfl rfl ?_
          (try clear hK23 K23); (try clear hK22 K22); (try clear hK21 K21); (try clear hK20 K20); (try clear hK19 K19); (try clear hK18 K18); (try clear hK17 K17); (try clear hK16 K16); (try clear hK15 K15); (try clear hK14 K14); (try clear hK13 K13); (try clear hK12 K12); (try clear hK11 K11); (try clear hK10 K10); (try clear hK9 K9); (try clear hK8 K8); (try clear hK7 K7); (try clear hK6 K6); (try clear hK4 K4); (try clear hK3 K3); (try clear hK2 K2); (try clear hK1 K1)
          refine AOps.nil (hK5 _ _ _ (x + 1) _ (by rfl) (.nil _) (by have e : ((x : Int) - 1).toNat = x - 1 := (by omega); simp only [Int.toNat_natCast, e, lastSeq] at *; refine ⟨by omega, ?_⟩; rw [← hg2]; cases x <;> simp_all <;> omega) (by grind))
  · have hc8 := hb8; clear hb8; try simp only [decide_eq_true_eq, decide_eq_false_iff_not, Bool.not_eq_true, Bool.not_eq_false, Int.not_lt, Int.not_le, Bool.not_eq_true', Bool.not_eq_false'] at hc8
    rw [List.drop_of_length_le (by omega)] at hg2
    simp only [bufCheckF] at hg2
    refine AWp.exit (Or.inl ⟨rfl, (hK2 _ _ _ ?_)⟩); try clear hK2 K2
    refine AWp.keep [] rfl ?_
    refine AWp.regK fun K24 hK24 => ?_
    refine AOps.read (ARead.assign rfl rfl) rfl rfl rfl ?_
    refine AOps.nil (hK24 _ _ _ ?_); clear hK24 K24
    refine AWp.keep [2] rfl ?_
    refine AWp.ret ?_
    refine ⟨Or.inr rfl, _, (.tmp _ _ _ _ rfl .nil), ?_⟩
    (try clear hK24 K24); (try clear hK23 K23); (try clear hK22 K22); (try clear hK21 K21); (try clear hK20 K20); (try clear hK19 K19); (try clear hK18 K18); (try clear hK17 K17); (try clear hK16 K16); (try clear hK15 K15); (try clear hK14 K14); (try clear hK13 K13); (try clear hK12 K12); (try clear hK11 K11); (try clear hK10 K10); (try clear hK9 K9); (try clear hK8 K8); (try clear hK7 K7); (try clear hK6 K6); (try clear hK5 K5); (try clear hK4 K4); (try clear hK3 K3); (try clear hK2 K2); (try clear hK1 K1)
    show packR _ = _
    have e : ((x : Int) - 1).toNat = x - 1 := (by omega); (simp only [packR, Int.toNat_natCast, e, lastSeq] at *) <;> (rw [← hg2]) <;> (cases x <;> simp_all)

end Go.Sl
