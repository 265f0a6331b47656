/- Walks of package op, two. No condition beside those in the statements. -/
import Derived.Test.YtfbagkifhpnfjaaOp1
namespace Go.Sl
open Go Go.Proofs 
set_option linter.unusedVariables false
set_option linter.unusedSimpArgs false
set_option maxRecDepth 20000
set_option maxHeartbeats 400000
structure O6 where
  kind : Int
  key : Str
  val : Str
  lo : Str
  hi : Str
  most : Int
def o60 : O6 := ⟨0, [], [], [], [], 0⟩
abbrev o6F (o : O6) : List FV := [.int .i64 o.kind, .str o.key, .str o.val, .str o.lo, .str o.hi, .int .i64 o.most]
abbrev o6A (o : O6) : AV := .agg [vi o.kind, vs o.key, vs o.val, vs o.lo, vs o.hi, vi o.most]
def fKey (k : Int) : Bool := decide (k = 1 ∨ k = 2 ∨ k = 3)
def fVal (k : Int) : Bool := decide (k = 2)
def fRan (k : Int) : Bool := decide (k = 4 ∨ k = 5)
def fMost (k : Int) : Bool := decide (k = 4)
def fWri (k : Int) : Bool := decide (k = 2 ∨ k = 3 ∨ k = 5)
def fIs (k : Int) : Bool := decide (1 ≤ k ∧ k ≤ 5)
def fDo (k : Int) : FV := if k = 1 then .fn (.func 110) else if k = 2 then .fn (.func 111) else if k = 3 then .fn (.func 112) else if k = 4 then .fn (.func 113) else if k = 5 then .fn (.func 114) else .nilfn
abbrev formC (k : Int) : List AV := [vb (fKey k), vb (fVal k), vb (fRan k), vb (fMost k), vb (fWri k), .fv (fDo k)]
abbrev formsC : List AV := [vb false, vb false, vb false, vb false, vb false, .fv .nilfn,
  vb true, vb false, vb false, vb false, vb false, .fv (.fn (.func 110)),
  vb true, vb true, vb false, vb false, vb true, .fv (.fn (.func 111)),
  vb true, vb false, vb false, vb false, vb true, .fv (.fn (.func 112)),
  vb false, vb false, vb true, vb true, vb false, .fv (.fn (.func 113)),
  vb false, vb false, vb true, vb false, vb true, .fv (.fn (.func 114))]
def checkOpF (o : O6) : Int :=
  if fIs o.kind = false ∨ (fKey o.kind = false ∧ o.key ≠ []) ∨ (fVal o.kind = false ∧ o.val ≠ []) ∨ (fRan o.kind = false ∧ ¬ (o.lo = [] ∧ o.hi = [])) ∨ (fMost o.kind = false ∧ o.most ≠ 0) then 40
  else if fKey o.kind = true ∧ checkKeyF o.key ≠ 0 then 20
  else if 16 < o.val.length then 2
  else if fRan o.kind = true ∧ spanCheckF o.lo o.hi ≠ 0 then 21
  else if fMost o.kind = true ∧ (o.most < 1 ∨ 4 < o.most) then 1 else 0

theorem forms_ok  : APure Try.prog 71 [] (.agg formsC) := by
  refine APure.intro fun N0 => ?_
  refine ACall.of_body tabOk (tab := tab) (fn := Try.f71) Try.func71 (by kernel_rfl) rfl (by simp [Try.f71]) ?_
  show AWp Try.prog 7 _ N0 [] [] _
  refine AWp.regK fun K1 hK1 => ?_
  refine AOps.op1 (AOp.alloc tabOk rfl rfl rfl) rfl rfl rfl ?_
  refine AOps.nil (hK1 _ _ _ ?_); clear hK1 K1
  refine AWp.keep [0] rfl ?_
  refine AWp.regK fun K2 hK2 => ?_
  refine AOps.read (ARead.build tabOk rfl rfl rfl rfl rfl rfl rfl) rfl rfl rfl ?_
  refine AOps.read (ARead.build tabOk rfl rfl rfl rfl rfl rfl rfl) rfl rfl rfl ?_
  refine AOps.read (ARead.build tabOk rfl rfl rfl rfl rfl rfl rfl) rfl rfl rfl ?_
  refine AOps.read (ARead.build tabOk rfl rfl rfl rfl rfl rfl rfl) rfl rfl rfl ?_
  refine AOps.keep [0, 1, 2, 3, 4] rfl ?_
  refine AOps.read (ARead.build tabOk rfl rfl rfl rfl rfl rfl rfl) rfl rfl rfl ?_
  refine AOps.read (ARead.build tabOk rfl rfl rfl rfl rfl rfl rfl) rfl rfl rfl ?_
  first | refine AOps.op10 (AOp.storeC tabOk rfl rfl rfl rfl (by repeat (first | exact Has.head _ | apply Has.tail)) rfl (Nat.le_of_ble_eq_true rfl) rfl) rfl rfl ?_ | refine AOps.op10 (AOp.store tabOk rfl rfl rfl rfl (by repeat (first | exact Has.head _ | apply Has.tail)) (by first | decide | omega) rfl (by decide) rfl) rfl rfl ?_
  refine AOps.nil (hK2 _ _ _ ?_); clear hK2 K2
  refine AWp.keep [0] rfl ?_
  refine AWp.ret ?_
  refine ⟨Or.inr rfl, _, (.cell _ _ _ _ _ _ _ _ _ _ _ _ _ _ rfl (by repeat (first | exact Has.head _ | apply Has.tail)) (by decide) rfl rfl rfl .nil), ?_⟩
  (try clear hK2 K2); (try clear hK1 K1)
  show packR _ = _
  rfl

theorem formOf_ok (k : Int) : APure Try.prog 143 [vi k] (.tuple [.agg (formC k), vb (fIs k)]) := by
  refine APure.intro fun N0 => ?_
  refine ACall.of_body tabOk (tab := tab) (fn := Try.f143) Try.func143 (by kernel_rfl) rfl (by simp [Try.f143]) ?_
  show AWp Try.prog 14 _ N0 [(0, vi k)] [] _
  refine AWp.regK fun K1 hK1 => ?_
  refine AOps.op1 (AOp.alloc tabOk rfl rfl rfl) rfl rfl rfl ?_
  refine AOps.read (ARead.assign rfl rfl) rfl rfl rfl ?_
  refine AOps.nil (hK1 _ _ _ ?_); clear hK1 K1
  refine AWp.keep [0, 2] rfl ?_
  refine AWp.seqK fun K2 hK2 => ?_
  refine AWp.regK fun K3 hK3 => ?_
  refine AOps.read (ARead.move rfl rfl) rfl rfl rfl ?_
  refine AOps.read (ARead.binOp rfl rfl rfl rfl) rfl rfl rfl ?_
  refine AOps.read (ARead.move rfl rfl) rfl rfl rfl ?_
  refine AOps.gread rfl rfl rfl rfl rfl (.cons 0 _ _ _ rfl (by first | exact .strip _ _ id | (refine .strip _ _ (fun h => ?_); simp_all; done) | exact .same _) .nil) (fun hG => ARead.move rfl rfl) rfl rfl ?_
  refine AOps.keep [0, 2, 6, 7] rfl ?_
  refine AOps.gread rfl rfl rfl rfl rfl (.cons 7 _ _ _ rfl (by first | exact .strip _ _ id | (refine .strip _ _ (fun h => ?_); simp_all; done) | exact .same _) .nil) (fun hG => ARead.binOp rfl rfl rfl rfl) rfl rfl ?_
  first | refine AOps.read (ARead.pickB rfl rfl rfl (by first | exact .strip _ _ id | (refine .strip _ _ (fun h => ?_); simp_all; done) | exact .same _) rfl (by first | exact .strip _ _ id | (refine .strip _ _ (fun h => ?_); simp_all; done) | exact .same _)) rfl rfl rfl ?_ | refine AOps.read (ARead.pick rfl rfl rfl) rfl rfl rfl ?_
  refine AOps.nil (hK3 _ _ _ ?_); clear hK3 K3
  refine AWp.keep [0, 2, 9] rfl ?_
  refine AWp.cond rfl (fun hb4 => ?_) (fun hb4 => ?_)
  · have hc4 := hb4; clear hb4; try simp only [decide_eq_true_eq, decide_eq_false_iff_not, Bool.not_eq_true, Bool.not_eq_false, Int.not_lt, Int.not_le, Bool.not_eq_true', Bool.not_eq_false'] at hc4
    refine AWp.regK fun K5 hK5 => ?_
    refine AOps.read (ARead.build tabOk rfl rfl rfl rfl rfl rfl rfl) rfl rfl rfl ?_
    first | refine AOps.op10 (AOp.storeC tabOk rfl rfl rfl rfl (by repeat (first | exact Has.head _ | apply Has.tail)) rfl (Nat.le_of_ble_eq_true rfl) rfl) rfl rfl ?_ | refine AOps.op10 (AOp.store tabOk rfl rfl rfl rfl (by repeat (first | exact Has.head _ | apply Has.tail)) (by first | decide | omega) rfl (by decide) rfl) rfl rfl ?_
    refine AOps.read (ARead.assign rfl rfl) rfl rfl rfl ?_
    refine AOps.nil (hK5 _ _ _ ?_); clear hK5 K5
    refine AWp.keep [2, 3] rfl ?_
    refine AWp.ret ?_
    refine ⟨Or.inr rfl, _, (.cell _ _ _ _ _ _ _ _ _ _ _ _ _ _ rfl (by repeat (first | exact Has.head _ | apply Has.tail)) (by decide) rfl rfl rfl (.tmp _ _ _ _ rfl .nil)), ?_⟩
    (try clear hK5 K5); (try clear hK4 K4); (try clear hK3 K3); (try clear hK2 K2); (try clear hK1 K1)
    show packR _ = _
    first | rfl | (simp at hc4; have h1 : fKey k = false ∧ fVal k = false ∧ fRan k = false ∧ fMost k = false ∧ fWri k = false ∧ fIs k = false := (by simp [fKey, fVal, fRan, fMost, fWri, fIs]; omega); have h2 : fDo k = .nilfn := (by simp only [fDo]; repeat rw [if_neg (by omega)]); obtain ⟨a1, a2, a3, a4, a5, a6⟩ := h1; rw [show formC k = [vb false, vb false, vb false, vb false, vb false, .fv .nilfn] from by simp only [formC, a1, a2, a3, a4, a5, h2], a6]; rfl)
  · have hc4 := hb4; clear hb4; try simp only [decide_eq_true_eq, decide_eq_false_iff_not, Bool.not_eq_true, Bool.not_eq_false, Int.not_lt, Int.not_le, Bool.not_eq_true', Bool.not_eq_false'] at hc4
    obtain rfl | rfl | rfl | rfl | rfl : k = 1 ∨ k = 2 ∨ k = 3 ∨ k = 4 ∨ k = 5 := by (simp at hc4; omega)
    all_goals
      refine AWp.skip (hK2 _ _ _ ?_); try clear hK2 K2
      refine AWp.keep [0, 2] rfl ?_
      refine AWp.regK fun K6 hK6 => ?_
      refine AOps.pcall (forms_ok) rfl (by first | exact .inr ⟨rfl, rfl, rfl⟩ | exact .inl rfl) rfl rfl rfl rfl (fun N hN => ?_)
      refine AOps.read (ARead.move rfl rfl) rfl rfl rfl ?_
      first | refine AOps.read (ARead.indexStr tabOk rfl rfl rfl rfl rfl (by omega) (by omega)) rfl rfl rfl ?_ | refine AOps.read (ARead.indexArr tabOk rfl rfl rfl rfl rfl rfl (by omega) (by omega) rfl) rfl rfl rfl ?_
      first | refine AOps.op10 (AOp.storeC tabOk rfl rfl rfl rfl (by repeat (first | exact Has.head _ | apply Has.tail)) rfl (Nat.le_of_ble_eq_true rfl) rfl) rfl rfl ?_ | refine AOps.op10 (AOp.store tabOk rfl rfl rfl rfl (by repeat (first | exact Has.head _ | apply Has.tail)) (by first | decide | omega) rfl (by decide) rfl) rfl rfl ?_
      refine AOps.keep [2] rfl ?_
      refine AOps.read (ARead.assign rfl rfl) rfl rfl rfl ?_
      refine AOps.nil (hK6 _ _ _ ?_); clear hK6 K6
      refine AWp.keep [2, 3] rfl ?_
      refine AWp.ret ?_
      refine ⟨Or.inr rfl, _, (.cell _ _ _ _ _ _ _ _ _ _ _ _ _ _ rfl (by repeat (first | exact Has.head _ | apply Has.tail)) (by decide) rfl rfl rfl (.tmp _ _ _ _ rfl .nil)), ?_⟩
      (try clear hK6 K6); (try clear hK5 K5); (try clear hK4 K4); (try clear hK3 K3); (try clear hK2 K2); (try clear hK1 K1)
      show packR _ = _
      first | rfl | (simp at hc4; have h1 : fKey k = false ∧ fVal k = false ∧ fRan k = false ∧ fMost k = false ∧ fWri k = false ∧ fIs k = false := (by simp [fKey, fVal, fRan, fMost, fWri, fIs]; omega); have h2 : fDo k = .nilfn := (by simp only [fDo]; repeat rw [if_neg (by omega)]); obtain ⟨a1, a2, a3, a4, a5, a6⟩ := h1; rw [show formC k = [vb false, vb false, vb false, vb false, vb false, .fv .nilfn] from by simp only [formC, a1, a2, a3, a4, a5, h2], a6]; rfl)

theorem opOf_ok (o : O6) : APure Try.prog 144 [o6A o] (.agg [vs o.lo, vs o.hi]) := by
  refine APure.intro fun N0 => ?_
  refine ACall.of_body tabOk (tab := tab) (fn := Try.f144) Try.func144 (by kernel_rfl) rfl (by simp [Try.f144]) ?_
  show AWp Try.prog 8 _ N0 [(0, o6A o)] [] _
  refine AWp.regK fun K1 hK1 => ?_
  refine AOps.op1 (AOp.box rfl rfl rfl) rfl rfl rfl ?_
  refine AOps.op1 (AOp.alloc tabOk rfl rfl rfl) rfl rfl rfl ?_
  refine AOps.nil (hK1 _ _ _ ?_); clear hK1 K1
  refine AWp.keep [1, 2] rfl ?_
  refine AWp.regK fun K2 hK2 => ?_
  refine AOps.read (ARead.fieldAddr tabOk rfl rfl rfl rfl (by decide) rfl) rfl rfl rfl ?_
  refine AOps.read (ARead.load tabOk rfl rfl rfl (by repeat (first | exact Has.head _ | apply Has.tail)) (by first | decide | omega) rfl rfl) rfl rfl rfl ?_
  refine AOps.read (ARead.fieldAddr tabOk rfl rfl rfl rfl (by decide) rfl) rfl rfl rfl ?_
  refine AOps.read (ARead.load tabOk rfl rfl rfl (by repeat (first | exact Has.head _ | apply Has.tail)) (by first | decide | omega) rfl rfl) rfl rfl rfl ?_
  refine AOps.keep [2, 4, 6] rfl ?_
  refine AOps.read (ARead.build tabOk rfl rfl rfl rfl rfl rfl rfl) rfl rfl rfl ?_
  first | refine AOps.op10 (AOp.storeC tabOk rfl rfl rfl rfl (by repeat (first | exact Has.head _ | apply Has.tail)) rfl (Nat.le_of_ble_eq_true rfl) rfl) rfl rfl ?_ | refine AOps.op10 (AOp.store tabOk rfl rfl rfl rfl (by repeat (first | exact Has.head _ | apply Has.tail)) (by first | decide | omega) rfl (by decide) rfl) rfl rfl ?_
  refine AOps.nil (hK2 _ _ _ ?_); clear hK2 K2
  refine AWp.keep [2] rfl ?_
  refine AWp.ret ?_
  refine ⟨Or.inr rfl, _, (.cell _ _ _ _ _ _ _ _ _ _ _ _ _ _ rfl (by repeat (first | exact Has.head _ | apply Has.tail)) (by decide) rfl rfl rfl .nil), ?_⟩
  (try clear hK2 K2); (try clear hK1 K1)
  show packR _ = _
  rfl

theorem writes_ok (o : O6) : APure Try.prog 99 [o6A o] (vb (fWri o.kind)) := by
  refine APure.intro fun N0 => ?_
  refine ACall.of_body tabOk (tab := tab) (fn := Try.f99) Try.func99 (by kernel_rfl) rfl (by simp [Try.f99]) ?_
  show AWp Try.prog 13 _ N0 [(0, o6A o)] [] _
  refine AWp.regK fun K1 hK1 => ?_
  refine AOps.op1 (AOp.box rfl rfl rfl) rfl rfl rfl ?_
  refine AOps.read (ARead.assign rfl rfl) rfl rfl rfl ?_
  refine AOps.nil (hK1 _ _ _ ?_); clear hK1 K1
  refine AWp.keep [1] rfl ?_
  refine AWp.regK fun K2 hK2 => ?_
  refine AOps.read (ARead.fieldAddr tabOk rfl rfl rfl rfl (by decide) rfl) rfl rfl rfl ?_
  refine AOps.read (ARead.load tabOk rfl rfl rfl (by repeat (first | exact Has.head _ | apply Has.tail)) (by first | decide | omega) rfl rfl) rfl rfl rfl ?_
  refine AOps.pcall (formOf_ok _) rfl (by first | exact .inr ⟨rfl, rfl, rfl⟩ | exact .inl rfl) rfl rfl rfl rfl (fun N hN => ?_)
  refine AOps.read (ARead.move rfl rfl) rfl rfl rfl ?_
  refine AOps.keep [5] rfl ?_
  refine AOps.read (ARead.extract rfl rfl rfl) rfl rfl rfl ?_
  refine AOps.read (ARead.extract rfl rfl rfl) rfl rfl rfl ?_
  refine AOps.op1 (AOp.alloc tabOk rfl rfl rfl) rfl rfl rfl ?_
  first | refine AOps.op10 (AOp.storeC tabOk rfl rfl rfl rfl (by repeat (first | exact Has.head _ | apply Has.tail)) rfl (Nat.le_of_ble_eq_true rfl) rfl) rfl rfl ?_ | refine AOps.op10 (AOp.store tabOk rfl rfl rfl rfl (by repeat (first | exact Has.head _ | apply Has.tail)) (by first | decide | omega) rfl (by decide) rfl) rfl rfl ?_
  refine AOps.keep [3, 10] rfl ?_
  refine AOps.read (ARead.assign rfl rfl) rfl rfl rfl ?_
  refine AOps.nil (hK2 _ _ _ ?_); clear hK2 K2
  refine AWp.keep [3] rfl ?_
  refine AWp.regK fun K3 hK3 => ?_
  refine AOps.read (ARead.fieldAddr tabOk rfl rfl rfl rfl (by decide) rfl) rfl rfl rfl ?_
  refine AOps.read (ARead.load tabOk rfl rfl rfl (by repeat (first | exact Has.head _ | apply Has.tail)) (by first | decide | omega) rfl rfl) rfl rfl rfl ?_
  refine AOps.read (ARead.assign rfl rfl) rfl rfl rfl ?_
  refine AOps.nil (hK3 _ _ _ ?_); clear hK3 K3
  refine AWp.keep [2] rfl ?_
  refine AWp.ret ?_
  refine ⟨Or.inr rfl, _, (.tmp _ _ _ _ rfl .nil), ?_⟩
  (try clear hK3 K3); (try clear hK2 K2); (try clear hK1 K1)
  show packR _ = _
  rfl

theorem checkOp_ok (o : O6) : APure Try.prog 98 [o6A o] (vi (checkOpF o)) := by
  refine APure.intro fun N0 => ?_
  refine ACall.of_body tabOk (tab := tab) (fn := Try.f98) Try.func98 (by kernel_rfl) rfl (by simp [Try.f98]) ?_
  show AWp Try.prog 83 _ N0 [(0, o6A o)] [] _
  refine AWp.regK fun K1 hK1 => ?_
  refine AOps.op1 (AOp.box rfl rfl rfl) rfl rfl rfl ?_
  refine AOps.read (ARead.assign rfl rfl) rfl rfl rfl ?_
  refine AOps.nil (hK1 _ _ _ ?_); clear hK1 K1
  refine AWp.keep [1] rfl ?_
  refine AWp.regK fun K2 hK2 => ?_
  refine AOps.read (ARead.fieldAddr tabOk rfl rfl rfl rfl (by decide) rfl) rfl rfl rfl ?_
  refine AOps.read (ARead.load tabOk rfl rfl rfl (by repeat (first | exact Has.head _ | apply Has.tail)) (by first | decide | omega) rfl rfl) rfl rfl rfl ?_
  refine AOps.pcall (formOf_ok _) rfl (by first | exact .inr ⟨rfl, rfl, rfl⟩ | exact .inl rfl) rfl rfl rfl rfl (fun N hN => ?_)
  refine AOps.read (ARead.move rfl rfl) rfl rfl rfl ?_
  refine AOps.keep [1, 5] rfl ?_
  refine AOps.read (ARead.extract rfl rfl rfl) rfl rfl rfl ?_
  refine AOps.read (ARead.extract rfl rfl rfl) rfl rfl rfl ?_
  refine AOps.op1 (AOp.alloc tabOk rfl rfl rfl) rfl rfl rfl ?_
  first | refine AOps.op10 (AOp.storeC tabOk rfl rfl rfl rfl (by repeat (first | exact Has.head _ | apply Has.tail)) rfl (Nat.le_of_ble_eq_true rfl) rfl) rfl rfl ?_ | refine AOps.op10 (AOp.store tabOk rfl rfl rfl rfl (by repeat (first | exact Has.head _ | apply Has.tail)) (by first | decide | omega) rfl (by decide) rfl) rfl rfl ?_
  refine AOps.keep [1, 3, 10] rfl ?_
  refine AOps.read (ARead.assign rfl rfl) rfl rfl rfl ?_
  refine AOps.nil (hK2 _ _ _ ?_); clear hK2 K2
  refine AWp.keep [1, 3, 4] rfl ?_
  refine AWp.seqK fun K3 hK3 => ?_
  refine AWp.block ?_
  refine AWp.seqK fun K5 hK5 => ?_
  refine AWp.regK fun K6 hK6 => ?_
  refine AOps.read (ARead.move rfl rfl) rfl rfl rfl ?_
  refine AOps.read (ARead.unOp rfl rfl rfl) rfl rfl rfl ?_
  refine AOps.read (ARead.assign rfl rfl) rfl rfl rfl ?_
  refine AOps.nil (hK6 _ _ _ ?_); clear hK6 K6
  refine AWp.keep [1, 3, 11] rfl ?_
  refine AWp.cond rfl (fun hb7 => ?_) (fun hb7 => ?_)
  · have hc7 := hb7; clear hb7; try simp only [decide_eq_true_eq, decide_eq_false_iff_not, Bool.not_eq_true, Bool.not_eq_false, Int.not_lt, Int.not_le, Bool.not_eq_true', Bool.not_eq_false'] at hc7
    refine AWp.skip (hK5 _ _ _ ?_); try clear hK5 K5
    refine AWp.keep [1, 3, 11] rfl ?_
    refine AWp.cond rfl (fun hb8 => ?_) (fun hb8 => ?_)
    · have hc8 := hb8; clear hb8; try simp only [decide_eq_true_eq, decide_eq_false_iff_not, Bool.not_eq_true, Bool.not_eq_false, Int.not_lt, Int.not_le, Bool.not_eq_true', Bool.not_eq_false'] at hc8
      refine AWp.regK fun K9 hK9 => ?_
      refine AOps.read (ARead.assign rfl rfl) rfl rfl rfl ?_
      refine AOps.nil (hK9 _ _ _ ?_); clear hK9 K9
      refine AWp.keep [2] rfl ?_
      refine AWp.ret ?_
      refine ⟨Or.inr rfl, _, (.tmp _ _ _ _ rfl .nil), ?_⟩
      (try clear hK9 K9); (try clear hK8 K8); (try clear hK7 K7); (try clear hK6 K6); (try clear hK5 K5); (try clear hK4 K4); (try clear hK3 K3); (try clear hK2 K2); (try clear hK1 K1)
      show packR _ = _
      grind [packR, checkOpF]
    · have hc8 := hb8; clear hb8; try simp only [decide_eq_true_eq, decide_eq_false_iff_not, Bool.not_eq_true, Bool.not_eq_false, Int.not_lt, Int.not_le, Bool.not_eq_true', Bool.not_eq_false'] at hc8
      refine AWp.regK fun K10 hK10 => ?_
      refine AOps.read (ARead.fieldAddr tabOk rfl rfl rfl rfl (by decide) rfl) rfl rfl rfl ?_
      refine AOps.read (ARead.load tabOk rfl rfl rfl (by repeat (first | exact Has.head _ | apply Has.tail)) (by first | decide | omega) rfl rfl) rfl rfl rfl ?_
      refine AOps.read (ARead.move rfl rfl) rfl rfl rfl ?_
      refine AOps.gread rfl rfl rfl rfl rfl (.cons 1 _ _ _ rfl (by first | exact .strip _ _ id | (refine .strip _ _ (fun h => ?_); simp_all; done) | exact .same _) .nil) (fun hG => ARead.fieldAddr tabOk rfl rfl rfl rfl (by decide) rfl) rfl rfl ?_
      refine AOps.keep [1, 3, 50, 51] rfl ?_
      refine AOps.gread rfl rfl rfl rfl rfl (.cons 51 _ _ _ rfl (by first | exact .strip _ _ id | (refine .strip _ _ (fun h => ?_); simp_all; done) | exact .same _) .nil) (fun hG => ARead.load tabOk rfl rfl rfl (by repeat (first | exact Has.head _ | apply Has.tail)) (by first | decide | omega) rfl rfl) rfl rfl ?_
      refine AOps.gpcall rfl rfl rfl rfl rfl (.cons 52 _ _ _ rfl (by first | exact .strip _ _ id | (refine .strip _ _ (fun h => ?_); simp_all; done) | exact .same _) .nil) rfl (by first | exact .inr ⟨rfl, rfl, rfl⟩ | exact .inl rfl) rfl (fun hG => checkKey_ok _) rfl rfl (fun N hN => ?_)
      refine AOps.gread rfl rfl rfl rfl rfl (.cons 53 _ _ _ rfl (by first | exact .strip _ _ id | (refine .strip _ _ (fun h => ?_); simp_all; done) | exact .same _) .nil) (fun hG => ARead.binOp rfl rfl rfl rfl) rfl rfl ?_
      first | refine AOps.read (ARead.pickB rfl rfl rfl (by first | exact .strip _ _ id | (refine .strip _ _ (fun h => ?_); simp_all; done) | exact .same _) rfl (by first | exact .strip _ _ id | (refine .strip _ _ (fun h => ?_); simp_all; done) | exact .same _)) rfl rfl rfl ?_ | refine AOps.read (ARead.pick rfl rfl rfl) rfl rfl rfl ?_
      refine AOps.keep [1, 3, 55] rfl ?_
      refine AOps.read (ARead.assign rfl rfl) rfl rfl rfl ?_
      refine AOps.nil (hK10 _ _ _ ?_); clear hK10 K10
      refine AWp.keep [1, 3, 47] rfl ?_
      refine AWp.cond rfl (fun hb11 => ?_) (fun hb11 => ?_)
      · have hc11 := hb11; clear hb11; try simp only [decide_eq_true_eq, decide_eq_false_iff_not, Bool.not_eq_true, Bool.not_eq_false, Int.not_lt, Int.not_le, Bool.not_eq_true', Bool.not_eq_false'] at hc11
        refine AWp.regK fun K12 hK12 => ?_
        refine AOps.read (ARead.assign rfl rfl) rfl rfl rfl ?_
        refine AOps.nil (hK12 _ _ _ ?_); clear hK12 K12
        refine AWp.keep [2] rfl ?_
        refine AWp.ret ?_
        refine ⟨Or.inr rfl, _, (.tmp _ _ _ _ rfl .nil), ?_⟩
        (try clear hK12 K12); (try clear hK11 K11); (try clear hK10 K10); (try clear hK9 K9); (try clear hK8 K8); (try clear hK7 K7); (try clear hK6 K6); (try clear hK5 K5); (try clear hK4 K4); (try clear hK3 K3); (try clear hK2 K2); (try clear hK1 K1)
        show packR _ = _
        grind [packR, checkOpF]
      · have hc11 := hb11; clear hb11; try simp only [decide_eq_true_eq, decide_eq_false_iff_not, Bool.not_eq_true, Bool.not_eq_false, Int.not_lt, Int.not_le, Bool.not_eq_true', Bool.not_eq_false'] at hc11
        refine AWp.regK fun K13 hK13 => ?_
        refine AOps.read (ARead.fieldAddr tabOk rfl rfl rfl rfl (by decide) rfl) rfl rfl rfl ?_
        refine AOps.read (ARead.load tabOk rfl rfl rfl (by repeat (first | exact Has.head _ | apply Has.tail)) (by first | decide | omega) rfl rfl) rfl rfl rfl ?_
        refine AOps.read (ARead.lenStr tabOk rfl rfl rfl rfl) rfl rfl rfl ?_
        refine AOps.read (ARead.binOp rfl rfl rfl rfl) rfl rfl rfl ?_
        refine AOps.keep [1, 3, 60] rfl ?_
        refine AOps.read (ARead.assign rfl rfl) rfl rfl rfl ?_
        refine AOps.nil (hK13 _ _ _ ?_); clear hK13 K13
        refine AWp.keep [1, 3, 56] rfl ?_
        refine AWp.cond rfl (fun hb14 => ?_) (fun hb14 => ?_)
        · have hc14 := hb14; clear hb14; try simp only [decide_eq_true_eq, decide_eq_false_iff_not, Bool.not_eq_true, Bool.not_eq_false, Int.not_lt, Int.not_le, Bool.not_eq_true', Bool.not_eq_false'] at hc14
          refine AWp.regK fun K15 hK15 => ?_
          refine AOps.read (ARead.assign rfl rfl) rfl rfl rfl ?_
          refine AOps.nil (hK15 _ _ _ ?_); clear hK15 K15
          refine AWp.keep [2] rfl ?_
          refine AWp.ret ?_
          refine ⟨Or.inr rfl, _, (.tmp _ _ _ _ rfl .nil), ?_⟩
          (try clear hK15 K15); (try clear hK14 K14); (try clear hK13 K13); (try clear hK12 K12); (try clear hK11 K11); (try clear hK10 K10); (try clear hK9 K9); (try clear hK8 K8); (try clear hK7 K7); (try clear hK6 K6); (try clear hK5 K5); (try clear hK4 K4); (try clear hK3 K3); (try clear hK2 K2); (try clear hK1 K1)
          show packR _ = _
          grind [packR, checkOpF]
        · have hc14 := hb14; clear hb14; try simp only [decide_eq_true_eq, decide_eq_false_iff_not, Bool.not_eq_true, Bool.not_eq_false, Int.not_lt, Int.not_le, Bool.not_eq_true', Bool.not_eq_false'] at hc14
          refine AWp.regK fun K16 hK16 => ?_
          refine AOps.read (ARead.fieldAddr tabOk rfl rfl rfl rfl (by decide) rfl) rfl rfl rfl ?_
          refine AOps.read (ARead.load tabOk rfl rfl rfl (by repeat (first | exact Has.head _ | apply Has.tail)) (by first | decide | omega) rfl rfl) rfl rfl rfl ?_
          refine AOps.read (ARead.move rfl rfl) rfl rfl rfl ?_
          refine AOps.gread rfl rfl rfl rfl rfl (.cons 1 _ _ _ rfl (by first | exact .strip _ _ id | (refine .strip _ _ (fun h => ?_); simp_all; done) | exact .same _) .nil) (fun hG => ARead.load tabOk rfl rfl rfl (by repeat (first | exact Has.head _ | apply Has.tail)) (by first | decide | omega) rfl rfl) rfl rfl ?_
          refine AOps.keep [1, 3, 64, 65] rfl ?_
          refine AOps.gpcall rfl rfl rfl rfl rfl (.cons 65 _ _ _ rfl (by first | exact .strip _ _ id | (refine .strip _ _ (fun h => ?_); simp_all; done) | exact .same _) .nil) rfl (by first | exact .inr ⟨rfl, rfl, rfl⟩ | exact .inl rfl) rfl (fun hG => opOf_ok _) rfl rfl (fun N hN => ?_)
          refine AOps.gpcall rfl rfl rfl rfl rfl (.cons 66 _ _ _ rfl (by first | exact .strip _ _ id | (refine .strip _ _ (fun h => ?_); simp_all; done) | exact .same _) .nil) rfl (by first | exact .inr ⟨rfl, rfl, rfl⟩ | exact .inl rfl) rfl (fun hG => spanCheck_ok _ _) rfl rfl (fun N hN => ?_)
          refine AOps.gread rfl rfl rfl rfl rfl (.cons 67 _ _ _ rfl (by first | exact .strip _ _ id | (refine .strip _ _ (fun h => ?_); simp_all; done) | exact .same _) .nil) (fun hG => ARead.binOp rfl rfl rfl rfl) rfl rfl ?_
          first | refine AOps.read (ARead.pickB rfl rfl rfl (by first | exact .strip _ _ id | (refine .strip _ _ (fun h => ?_); simp_all; done) | exact .same _) rfl (by first | exact .strip _ _ id | (refine .strip _ _ (fun h => ?_); simp_all; done) | exact .same _)) rfl rfl rfl ?_ | refine AOps.read (ARead.pick rfl rfl rfl) rfl rfl rfl ?_
          refine AOps.keep [1, 3, 69] rfl ?_
          refine AOps.read (ARead.assign rfl rfl) rfl rfl rfl ?_
          refine AOps.nil (hK16 _ _ _ ?_); clear hK16 K16
          refine AWp.keep [1, 3, 61] rfl ?_
          refine AWp.cond rfl (fun hb17 => ?_) (fun hb17 => ?_)
          · have hc17 := hb17; clear hb17; try simp only [decide_eq_true_eq, decide_eq_false_iff_not, Bool.not_eq_true, Bool.not_eq_false, Int.not_lt, Int.not_le, Bool.not_eq_true', Bool.not_eq_false'] at hc17
            refine AWp.regK fun K18 hK18 => ?_
            refine AOps.read (ARead.assign rfl rfl) rfl rfl rfl ?_
            refine AOps.nil (hK18 _ _ _ ?_); clear hK18 K18
            refine AWp.keep [2] rfl ?_
            refine AWp.ret ?_
            refine ⟨Or.inr rfl, _, (.tmp _ _ _ _ rfl .nil), ?_⟩
            (try clear hK18 K18); (try clear hK17 K17); (try clear hK16 K16); (try clear hK15 K15); (try clear hK14 K14); (try clear hK13 K13); (try clear hK12 K12); (try clear hK11 K11); (try clear hK10 K10); (try clear hK9 K9); (try clear hK8 K8); (try clear hK7 K7); (try clear hK6 K6); (try clear hK5 K5); (try clear hK4 K4); (try clear hK3 K3); (try clear hK2 K2); (try clear hK1 K1)
            show packR _ = _
            grind [packR, checkOpF]
          · have hc17 := hb17; clear hb17; try simp only [decide_eq_true_eq, decide_eq_false_iff_not, Bool.not_eq_true, Bool.not_eq_false, Int.not_lt, Int.not_le, Bool.not_eq_true', Bool.not_eq_false'] at hc17
            refine AWp.regK fun K19 hK19 => ?_
            refine AOps.read (ARead.fieldAddr tabOk rfl rfl rfl rfl (by decide) rfl) rfl rfl rfl ?_
            refine AOps.read (ARead.load tabOk rfl rfl rfl (by repeat (first | exact Has.head _ | apply Has.tail)) (by first | decide | omega) rfl rfl) rfl rfl rfl ?_
            refine AOps.read (ARead.move rfl rfl) rfl rfl rfl ?_
            refine AOps.gread rfl rfl rfl rfl rfl (.cons 1 _ _ _ rfl (by first | exact .strip _ _ id | (refine .strip _ _ (fun h => ?_); simp_all; done) | exact .same _) .nil) (fun hG => ARead.fieldAddr tabOk rfl rfl rfl rfl (by decide) rfl) rfl rfl ?_
            refine AOps.keep [1, 73, 74] rfl ?_
            refine AOps.gread rfl rfl rfl rfl rfl (.cons 74 _ _ _ rfl (by first | exact .strip _ _ id | (refine .strip _ _ (fun h => ?_); simp_all; done) | exact .same _) .nil) (fun hG => ARead.load tabOk rfl rfl rfl (by repeat (first | exact Has.head _ | apply Has.tail)) (by first | decide | omega) rfl rfl) rfl rfl ?_
            refine AOps.gread rfl rfl rfl rfl rfl (.cons 75 _ _ _ rfl (by first | exact .strip _ _ id | (refine .strip _ _ (fun h => ?_); simp_all; done) | exact .same _) .nil) (fun hG => ARead.binOp rfl rfl rfl rfl) rfl rfl ?_
            refine AOps.gread rfl rfl rfl rfl rfl (.cons 76 _ _ _ rfl (by first | exact .strip _ _ id | (refine .strip _ _ (fun h => ?_); simp_all; done) | exact .same _) .nil) (fun hG => ARead.move rfl rfl) rfl rfl ?_
            refine AOps.gread rfl rfl rfl rfl rfl (.cons 1 _ _ _ rfl (by first | exact .strip _ _ id | (refine .strip _ _ (fun h => ?_); simp_all; done) | exact .same _) .nil) (fun hG => ARead.fieldAddr tabOk rfl rfl rfl rfl (by decide) rfl) rfl rfl ?_
            refine AOps.keep [73, 77, 78] rfl ?_
            refine AOps.gread rfl rfl rfl rfl rfl (.cons 78 _ _ _ rfl (by first | exact .strip _ _ id | (refine .strip _ _ (fun h => ?_); simp_all; done) | exact .same _) .nil) (fun hG => ARead.load tabOk rfl rfl rfl (by repeat (first | exact Has.head _ | apply Has.tail)) (by first | decide | omega) rfl rfl) rfl rfl ?_
            refine AOps.gread rfl rfl rfl rfl rfl (.cons 79 _ _ _ rfl (by first | exact .strip _ _ id | (refine .strip _ _ (fun h => ?_); simp_all; done) | exact .same _) .nil) (fun hG => ARead.binOp rfl rfl rfl rfl) rfl rfl ?_
            first | refine AOps.gread rfl rfl rfl rfl rfl (.cons 77 _ _ _ rfl (by first | exact .strip _ _ id | (refine .strip _ _ (fun h => ?_); simp_all; done) | exact .same _) (.cons 80 _ _ _ rfl (by first | exact .strip _ _ id | (refine .strip _ _ (fun h => ?_); simp_all; done) | exact .same _) .nil)) (fun hG => ARead.pickB rfl rfl rfl (by first | exact .strip _ _ id | (refine .strip _ _ (fun h => ?_); simp_all; done) | exact .same _) rfl (by first | exact .strip _ _ id | (refine .strip _ _ (fun h => ?_); simp_all; done) | exact .same _)) rfl rfl ?_ | refine AOps.gread rfl rfl rfl rfl rfl (.cons 77 _ _ _ rfl (by first | exact .strip _ _ id | (refine .strip _ _ (fun h => ?_); simp_all; done) | exact .same _) (.cons 80 _ _ _ rfl (by first | exact .strip _ _ id | (refine .strip _ _ (fun h => ?_); simp_all; done) | exact .same _) .nil)) (fun hG => ARead.pick rfl rfl rfl) rfl rfl ?_
            first | refine AOps.read (ARead.pickB rfl rfl rfl (by first | exact .strip _ _ id | (refine .strip _ _ (fun h => ?_); simp_all; done) | exact .same _) rfl (by first | exact .strip _ _ id | (refine .strip _ _ (fun h => ?_); simp_all; done) | exact .same _)) rfl rfl rfl ?_ | refine AOps.read (ARead.pick rfl rfl rfl) rfl rfl rfl ?_
            refine AOps.keep [82] rfl ?_
            refine AOps.read (ARead.assign rfl rfl) rfl rfl rfl ?_
            refine AOps.nil (hK19 _ _ _ ?_); clear hK19 K19
            refine AWp.keep [70] rfl ?_
            refine AWp.cond rfl (fun hb20 => ?_) (fun hb20 => ?_)
            · have hc20 := hb20; clear hb20; try simp only [decide_eq_true_eq, decide_eq_false_iff_not, Bool.not_eq_true, Bool.not_eq_false, Int.not_lt, Int.not_le, Bool.not_eq_true', Bool.not_eq_false'] at hc20
              refine AWp.regK fun K21 hK21 => ?_
              refine AOps.read (ARead.assign rfl rfl) rfl rfl rfl ?_
              refine AOps.nil (hK21 _ _ _ ?_); clear hK21 K21
              refine AWp.keep [2] rfl ?_
              refine AWp.ret ?_
              refine ⟨Or.inr rfl, _, (.tmp _ _ _ _ rfl .nil), ?_⟩
              (try clear hK21 K21); (try clear hK20 K20); (try clear hK19 K19); (try clear hK18 K18); (try clear hK17 K17); (try clear hK16 K16); (try clear hK15 K15); (try clear hK14 K14); (try clear hK13 K13); (try clear hK12 K12); (try clear hK11 K11); (try clear hK10 K10); (try clear hK9 K9); (try clear hK8 K8); (try clear hK7 K7); (try clear hK6 K6); (try clear hK5 K5); (try clear hK4 K4); (try clear hK3 K3); (try clear hK2 K2); (try clear hK1 K1)
              show packR _ = _
              grind [packR, checkOpF]
            · have hc20 := hb20; clear hb20; try simp only [decide_eq_true_eq, decide_eq_false_iff_not, Bool.not_eq_true, Bool.not_eq_false, Int.not_lt, Int.not_le, Bool.not_eq_true', Bool.not_eq_false'] at hc20
              refine AWp.skip (hK3 _ _ _ ?_); try clear hK3 K3
              refine AWp.keep [] rfl ?_
              refine AWp.regK fun K22 hK22 => ?_
              refine AOps.read (ARead.assign rfl rfl) rfl rfl rfl ?_
              refine AOps.nil (hK22 _ _ _ ?_); clear hK22 K22
              refine AWp.keep [2] rfl ?_
              refine AWp.ret ?_
              refine ⟨Or.inr rfl, _, (.tmp _ _ _ _ rfl .nil), ?_⟩
              (try clear hK22 K22); (try clear hK21 K21); (try clear hK20 K20); (try clear hK19 K19); (try clear hK18 K18); (try clear hK17 K17); (try clear hK16 K16); (try clear hK15 K15); (try clear hK14 K14); (try clear hK13 K13); (try clear hK12 K12); (try clear hK11 K11); (try clear hK10 K10); (try clear hK9 K9); (try clear hK8 K8); (try clear hK7 K7); (try clear hK6 K6); (try clear hK5 K5); (try clear hK4 K4); (try clear hK3 K3); (try clear hK2 K2); (try clear hK1 K1)
              show packR _ = _
              grind [packR, checkOpF]
  · have hc7 := hb7; clear hb7; try simp only [decide_eq_true_eq, decide_eq_false_iff_not, Bool.not_eq_true, Bool.not_eq_false, Int.not_lt, Int.not_le, Bool.not_eq_true', Bool.not_eq_false'] at hc7
    refine AWp.regK fun K23 hK23 => ?_
    refine AOps.read (ARead.fieldAddr tabOk rfl rfl rfl rfl (by decide) rfl) rfl rfl rfl ?_
    refine AOps.read (ARead.load tabOk rfl rfl rfl (by repeat (first | exact Has.head _ | apply Has.tail)) (by first | decide | omega) rfl rfl) rfl rfl rfl ?_
    refine AOps.read (ARead.unOp rfl rfl rfl) rfl rfl rfl ?_
    refine AOps.read (ARead.move rfl rfl) rfl rfl rfl ?_
    refine AOps.keep [1, 3, 11, 17] rfl ?_
    refine AOps.gread rfl rfl rfl rfl rfl (.cons 1 _ _ _ rfl (by first | exact .strip _ _ id | (refine .strip _ _ (fun h => ?_); simp_all; done) | exact .same _) .nil) (fun hG => ARead.fieldAddr tabOk rfl rfl rfl rfl (by decide) rfl) rfl rfl ?_
    refine AOps.gread rfl rfl rfl rfl rfl (.cons 18 _ _ _ rfl (by first | exact .strip _ _ id | (refine .strip _ _ (fun h => ?_); simp_all; done) | exact .same _) .nil) (fun hG => ARead.load tabOk rfl rfl rfl (by repeat (first | exact Has.head _ | apply Has.tail)) (by first | decide | omega) rfl rfl) rfl rfl ?_
    refine AOps.gread rfl rfl rfl rfl rfl (.cons 19 _ _ _ rfl (by first | exact .strip _ _ id | (refine .strip _ _ (fun h => ?_); simp_all; done) | exact .same _) .nil) (fun hG => ARead.binOp rfl rfl rfl rfl) rfl rfl ?_
    first | refine AOps.read (ARead.pickB rfl rfl rfl (by first | exact .strip _ _ id | (refine .strip _ _ (fun h => ?_); simp_all; done) | exact .same _) rfl (by first | exact .strip _ _ id | (refine .strip _ _ (fun h => ?_); simp_all; done) | exact .same _)) rfl rfl rfl ?_ | refine AOps.read (ARead.pick rfl rfl rfl) rfl rfl rfl ?_
    refine AOps.keep [1, 3, 11, 21] rfl ?_
    refine AOps.read (ARead.assign rfl rfl) rfl rfl rfl ?_
    refine AOps.nil (hK23 _ _ _ ?_); clear hK23 K23
    refine AWp.keep [1, 3, 11] rfl ?_
    refine AWp.cond rfl (fun hb24 => ?_) (fun hb24 => ?_)
    · have hc24 := hb24; clear hb24; try simp only [decide_eq_true_eq, decide_eq_false_iff_not, Bool.not_eq_true, Bool.not_eq_false, Int.not_lt, Int.not_le, Bool.not_eq_true', Bool.not_eq_false'] at hc24
      refine AWp.skip (hK5 _ _ _ ?_); try clear hK5 K5
      refine AWp.keep [1, 3, 11] rfl ?_
      refine AWp.cond rfl (fun hb25 => ?_) (fun hb25 => ?_)
      · have hc25 := hb25; clear hb25; try simp only [decide_eq_true_eq, decide_eq_false_iff_not, Bool.not_eq_true, Bool.not_eq_false, Int.not_lt, Int.not_le, Bool.not_eq_true', Bool.not_eq_false'] at hc25
        refine AWp.regK fun K26 hK26 => ?_
        refine AOps.read (ARead.assign rfl rfl) rfl rfl rfl ?_
        refine AOps.nil (hK26 _ _ _ ?_); clear hK26 K26
        refine AWp.keep [2] rfl ?_
        refine AWp.ret ?_
        refine ⟨Or.inr rfl, _, (.tmp _ _ _ _ rfl .nil), ?_⟩
        (try clear hK26 K26); (try clear hK25 K25); (try clear hK24 K24); (try clear hK23 K23); (try clear hK22 K22); (try clear hK21 K21); (try clear hK20 K20); (try clear hK19 K19); (try clear hK18 K18); (try clear hK17 K17); (try clear hK16 K16); (try clear hK15 K15); (try clear hK14 K14); (try clear hK13 K13); (try clear hK12 K12); (try clear hK11 K11); (try clear hK10 K10); (try clear hK9 K9); (try clear hK8 K8); (try clear hK7 K7); (try clear hK6 K6); (try clear hK5 K5); (try clear hK4 K4); (try clear hK3 K3); (try clear hK2 K2); (try clear hK1 K1)
        show packR _ = _
        grind [packR, checkOpF]
      · have hc25 := hb25; clear hb25; try simp only [decide_eq_true_eq, decide_eq_false_iff_not, Bool.not_eq_true, Bool.not_eq_false, Int.not_lt, Int.not_le, Bool.not_eq_true', Bool.not_eq_false'] at hc25
        refine AWp.regK fun K27 hK27 => ?_
        refine AOps.read (ARead.fieldAddr tabOk rfl rfl rfl rfl (by decide) rfl) rfl rfl rfl ?_
        refine AOps.read (ARead.load tabOk rfl rfl rfl (by repeat (first | exact Has.head _ | apply Has.tail)) (by first | decide | omega) rfl rfl) rfl rfl rfl ?_
        refine AOps.read (ARead.move rfl rfl) rfl rfl rfl ?_
        refine AOps.gread rfl rfl rfl rfl rfl (.cons 1 _ _ _ rfl (by first | exact .strip _ _ id | (refine .strip _ _ (fun h => ?_); simp_all; done) | exact .same _) .nil) (fun hG => ARead.fieldAddr tabOk rfl rfl rfl rfl (by decide) rfl) rfl rfl ?_
        refine AOps.keep [1, 3, 50, 51] rfl ?_
        refine AOps.gread rfl rfl rfl rfl rfl (.cons 51 _ _ _ rfl (by first | exact .strip _ _ id | (refine .strip _ _ (fun h => ?_); simp_all; done) | exact .same _) .nil) (fun hG => ARead.load tabOk rfl rfl rfl (by repeat (first | exact Has.head _ | apply Has.tail)) (by first | decide | omega) rfl rfl) rfl rfl ?_
        refine AOps.gpcall rfl rfl rfl rfl rfl (.cons 52 _ _ _ rfl (by first | exact .strip _ _ id | (refine .strip _ _ (fun h => ?_); simp_all; done) | exact .same _) .nil) rfl (by first | exact .inr ⟨rfl, rfl, rfl⟩ | exact .inl rfl) rfl (fun hG => checkKey_ok _) rfl rfl (fun N hN => ?_)
        refine AOps.gread rfl rfl rfl rfl rfl (.cons 53 _ _ _ rfl (by first | exact .strip _ _ id | (refine .strip _ _ (fun h => ?_); simp_all; done) | exact .same _) .nil) (fun hG => ARead.binOp rfl rfl rfl rfl) rfl rfl ?_
        first | refine AOps.read (ARead.pickB rfl rfl rfl (by first | exact .strip _ _ id | (refine .strip _ _ (fun h => ?_); simp_all; done) | exact .same _) rfl (by first | exact .strip _ _ id | (refine .strip _ _ (fun h => ?_); simp_all; done) | exact .same _)) rfl rfl rfl ?_ | refine AOps.read (ARead.pick rfl rfl rfl) rfl rfl rfl ?_
        refine AOps.keep [1, 3, 55] rfl ?_
        refine AOps.read (ARead.assign rfl rfl) rfl rfl rfl ?_
        refine AOps.nil (hK27 _ _ _ ?_); clear hK27 K27
        refine AWp.keep [1, 3, 47] rfl ?_
        refine AWp.cond rfl (fun hb28 => ?_) (fun hb28 => ?_)
        · have hc28 := hb28; clear hb28; try simp only [decide_eq_true_eq, decide_eq_false_iff_not, Bool.not_eq_true, Bool.not_eq_false, Int.not_lt, Int.not_le, Bool.not_eq_true', Bool.not_eq_false'] at hc28
          refine AWp.regK fun K29 hK29 => ?_
          refine AOps.read (ARead.assign rfl rfl) rfl rfl rfl ?_
          refine AOps.nil (hK29 _ _ _ ?_); clear hK29 K29
          refine AWp.keep [2] rfl ?_
          refine AWp.ret ?_
          refine ⟨Or.inr rfl, _, (.tmp _ _ _ _ rfl .nil), ?_⟩
          (try clear hK29 K29); (try clear hK28 K28); (try clear hK27 K27); (try clear hK26 K26); (try clear hK25 K25); (try clear hK24 K24); (try clear hK23 K23); (try clear hK22 K22); (try clear hK21 K21); (try clear hK20 K20); (try clear hK19 K19); (try clear hK18 K18); (try clear hK17 K17); (try clear hK16 K16); (try clear hK15 K15); (try clear hK14 K14); (try clear hK13 K13); (try clear hK12 K12); (try clear hK11 K11); (try clear hK10 K10); (try clear hK9 K9); (try clear hK8 K8); (try clear hK7 K7); (try clear hK6 K6); (try clear hK5 K5); (try clear hK4 K4); (try clear hK3 K3); (try clear hK2 K2); (try clear hK1 K1)
          show packR _ = _
          grind [packR, checkOpF]
        · have hc28 := hb28; clear hb28; try simp only [decide_eq_true_eq, decide_eq_false_iff_not, Bool.not_eq_true, Bool.not_eq_false, Int.not_lt, Int.not_le, Bool.not_eq_true', Bool.not_eq_false'] at hc28
          refine AWp.regK fun K30 hK30 => ?_
          refine AOps.read (ARead.fieldAddr tabOk rfl rfl rfl rfl (by decide) rfl) rfl rfl rfl ?_
          refine AOps.read (ARead.load tabOk rfl rfl rfl (by repeat (first | exact Has.head _ | apply Has.tail)) (by first | decide | omega) rfl rfl) rfl rfl rfl ?_
          refine AOps.read (ARead.lenStr tabOk rfl rfl rfl rfl) rfl rfl rfl ?_
          refine AOps.read (ARead.binOp rfl rfl rfl rfl) rfl rfl rfl ?_
          refine AOps.keep [1, 3, 60] rfl ?_
          refine AOps.read (ARead.assign rfl rfl) rfl rfl rfl ?_
          refine AOps.nil (hK30 _ _ _ ?_); clear hK30 K30
          refine AWp.keep [1, 3, 56] rfl ?_
          refine AWp.cond rfl (fun hb31 => ?_) (fun hb31 => ?_)
          · have hc31 := hb31; clear hb31; try simp only [decide_eq_true_eq, decide_eq_false_iff_not, Bool.not_eq_true, Bool.not_eq_false, Int.not_lt, Int.not_le, Bool.not_eq_true', Bool.not_eq_false'] at hc31
            refine AWp.regK fun K32 hK32 => ?_
            refine AOps.read (ARead.assign rfl rfl) rfl rfl rfl ?_
            refine AOps.nil (hK32 _ _ _ ?_); clear hK32 K32
            refine AWp.keep [2] rfl ?_
            refine AWp.ret ?_
            refine ⟨Or.inr rfl, _, (.tmp _ _ _ _ rfl .nil), ?_⟩
            (try clear hK32 K32); (try clear hK31 K31); (try clear hK30 K30); (try clear hK29 K29); (try clear hK28 K28); (try clear hK27 K27); (try clear hK26 K26); (try clear hK25 K25); (try clear hK24 K24); (try clear hK23 K23); (try clear hK22 K22); (try clear hK21 K21); (try clear hK20 K20); (try clear hK19 K19); (try clear hK18 K18); (try clear hK17 K17); (try clear hK16 K16); (try clear hK15 K15); (try clear hK14 K14); (try clear hK13 K13); (try clear hK12 K12); (try clear hK11 K11); (try clear hK10 K10); (try clear hK9 K9); (try clear hK8 K8); (try clear hK7 K7); (try clear hK6 K6); (try clear hK5 K5); (try clear hK4 K4); (try clear hK3 K3); (try clear hK2 K2); (try clear hK1 K1)
            show packR _ = _
            grind [packR, checkOpF]
          · have hc31 := hb31; clear hb31; try simp only [decide_eq_true_eq, decide_eq_false_iff_not, Bool.not_eq_true, Bool.not_eq_false, Int.not_lt, Int.not_le, Bool.not_eq_true', Bool.not_eq_false'] at hc31
            refine AWp.regK fun K33 hK33 => ?_
            refine AOps.read (ARead.fieldAddr tabOk rfl rfl rfl rfl (by decide) rfl) rfl rfl rfl ?_
            refine AOps.read (ARead.load tabOk rfl rfl rfl (by repeat (first | exact Has.head _ | apply Has.tail)) (by first | decide | omega) rfl rfl) rfl rfl rfl ?_
            refine AOps.read (ARead.move rfl rfl) rfl rfl rfl ?_
            refine AOps.gread rfl rfl rfl rfl rfl (.cons 1 _ _ _ rfl (by first | exact .strip _ _ id | (refine .strip _ _ (fun h => ?_); simp_all; done) | exact .same _) .nil) (fun hG => ARead.load tabOk rfl rfl rfl (by repeat (first | exact Has.head _ | apply Has.tail)) (by first | decide | omega) rfl rfl) rfl rfl ?_
            refine AOps.keep [1, 3, 64, 65] rfl ?_
            refine AOps.gpcall rfl rfl rfl rfl rfl (.cons 65 _ _ _ rfl (by first | exact .strip _ _ id | (refine .strip _ _ (fun h => ?_); simp_all; done) | exact .same _) .nil) rfl (by first | exact .inr ⟨rfl, rfl, rfl⟩ | exact .inl rfl) rfl (fun hG => opOf_ok _) rfl rfl (fun N hN => ?_)
            refine AOps.gpcall rfl rfl rfl rfl rfl (.cons 66 _ _ _ rfl (by first | exact .strip _ _ id | (refine .strip _ _ (fun h => ?_); simp_all; done) | exact .same _) .nil) rfl (by first | exact .inr ⟨rfl, rfl, rfl⟩ | exact .inl rfl) rfl (fun hG => spanCheck_ok _ _) rfl rfl (fun N hN => ?_)
            refine AOps.gread rfl rfl rfl rfl rfl (.cons 67 _ _ _ rfl (by first | exact .strip _ _ id | (refine .strip _ _ (fun h => ?_); simp_all; done) | exact .same _) .nil) (fun hG => ARead.binOp rfl rfl rfl rfl) rfl rfl ?_
            first | refine AOps.read (ARead.pickB rfl rfl rfl (by first | exact .strip _ _ id | (refine .strip _ _ (fun h => ?_); simp_all; done) | exact .same _) rfl (by first | exact .strip _ _ id | (refine .strip _ _ (fun h => ?_); simp_all; done) | exact .same _)) rfl rfl rfl ?_ | refine AOps.read (ARead.pick rfl rfl rfl) rfl rfl rfl ?_
            refine AOps.keep [1, 3, 69] rfl ?_
            refine AOps.read (ARead.assign rfl rfl) rfl rfl rfl ?_
            refine AOps.nil (hK33 _ _ _ ?_); clear hK33 K33
            refine AWp.keep [1, 3, 61] rfl ?_
            refine AWp.cond rfl (fun hb34 => ?_) (fun hb34 => ?_)
            · have hc34 := hb34; clear hb34; try simp only [decide_eq_true_eq, decide_eq_false_iff_not, Bool.not_eq_true, Bool.not_eq_false, Int.not_lt, Int.not_le, Bool.not_eq_true', Bool.not_eq_false'] at hc34
              refine AWp.regK fun K35 hK35 => ?_
              refine AOps.read (ARead.assign rfl rfl) rfl rfl rfl ?_
              refine AOps.nil (hK35 _ _ _ ?_); clear hK35 K35
              refine AWp.keep [2] rfl ?_
              refine AWp.ret ?_
              refine ⟨Or.inr rfl, _, (.tmp _ _ _ _ rfl .nil), ?_⟩
              (try clear hK35 K35); (try clear hK34 K34); (try clear hK33 K33); (try clear hK32 K32); (try clear hK31 K31); (try clear hK30 K30); (try clear hK29 K29); (try clear hK28 K28); (try clear hK27 K27); (try clear hK26 K26); (try clear hK25 K25); (try clear hK24 K24); (try clear hK23 K23); (try clear hK22 K22); (try clear hK21 K21); (try clear hK20 K20); (try clear hK19 K19); (try clear hK18 K18); (try clear hK17 K17); (try clear hK16 K16); (try clear hK15 K15); (try clear hK14 K14); (try clear hK13 K13); (try clear hK12 K12); (try clear hK11 K11); (try clear hK10 K10); (try clear hK9 K9); (try clear hK8 K8); (try clear hK7 K7); (try clear hK6 K6); (try clear hK5 K5); (try clear hK4 K4); (try clear hK3 K3); (try clear hK2 K2); (try clear hK1 K1)
              show packR _ = _
              grind [packR, checkOpF]
            · have hc34 := hb34; clear hb34; try simp only [decide_eq_true_eq, decide_eq_false_iff_not, Bool.not_eq_true, Bool.not_eq_false, Int.not_lt, Int.not_le, Bool.not_eq_true', Bool.not_eq_false'] at hc34
              refine AWp.regK fun K36 hK36 => ?_
              refine AOps.read (ARead.fieldAddr tabOk rfl rfl rfl rfl (by decide) rfl) rfl rfl rfl ?_
              refine AOps.read (ARead.load tabOk rfl rfl rfl (by repeat (first | exact Has.head _ | apply Has.tail)) (by first | decide | omega) rfl rfl) rfl rfl rfl ?_
              refine AOps.read (ARead.move rfl rfl) rfl rfl rfl ?_
              refine AOps.gread rfl rfl rfl rfl rfl (.cons 1 _ _ _ rfl (by first | exact .strip _ _ id | (refine .strip _ _ (fun h => ?_); simp_all; done) | exact .same _) .nil) (fun hG => ARead.fieldAddr tabOk rfl rfl rfl rfl (by decide) rfl) rfl rfl ?_
              refine AOps.keep [1, 73, 74] rfl ?_
              refine AOps.gread rfl rfl rfl rfl rfl (.cons 74 _ _ _ rfl (by first | exact .strip _ _ id | (refine .strip _ _ (fun h => ?_); simp_all; done) | exact .same _) .nil) (fun hG => ARead.load tabOk rfl rfl rfl (by repeat (first | exact Has.head _ | apply Has.tail)) (by first | decide | omega) rfl rfl) rfl rfl ?_
              refine AOps.gread rfl rfl rfl rfl rfl (.cons 75 _ _ _ rfl (by first | exact .strip _ _ id | (refine .strip _ _ (fun h => ?_); simp_all; done) | exact .same _) .nil) (fun hG => ARead.binOp rfl rfl rfl rfl) rfl rfl ?_
              refine AOps.gread rfl rfl rfl rfl rfl (.cons 76 _ _ _ rfl (by first | exact .strip _ _ id | (refine .strip _ _ (fun h => ?_); simp_all; done) | exact .same _) .nil) (fun hG => ARead.move rfl rfl) rfl rfl ?_
              refine AOps.gread rfl rfl rfl rfl rfl (.cons 1 _ _ _ rfl (by first | exact .strip _ _ id | (refine .strip _ _ (fun h => ?_); simp_all; done) | exact .same _) .nil) (fun hG => ARead.fieldAddr tabOk rfl rfl rfl rfl (by decide) rfl) rfl rfl ?_
              refine AOps.keep [73, 77, 78] rfl ?_
              refine AOps.gread rfl rfl rfl rfl rfl (.cons 78 _ _ _ rfl (by first | exact .strip _ _ id | (refine .strip _ _ (fun h => ?_); simp_all; done) | exact .same _) .nil) (fun hG => ARead.load tabOk rfl rfl rfl (by repeat (first | exact Has.head _ | apply Has.tail)) (by first | decide | omega) rfl rfl) rfl rfl ?_
              refine AOps.gread rfl rfl rfl rfl rfl (.cons 79 _ _ _ rfl (by first | exact .strip _ _ id | (refine .strip _ _ (fun h => ?_); simp_all; done) | exact .same _) .nil) (fun hG => ARead.binOp rfl rfl rfl rfl) rfl rfl ?_
              first | refine AOps.gread rfl rfl rfl rfl rfl (.cons 77 _ _ _ rfl (by first | exact .strip _ _ id | (refine .strip _ _ (fun h => ?_); simp_all; done) | exact .same _) (.cons 80 _ _ _ rfl (by first | exact .strip _ _ id | (refine .strip _ _ (fun h => ?_); simp_all; done) | exact .same _) .nil)) (fun hG => ARead.pickB rfl rfl rfl (by first | exact .strip _ _ id | (refine .strip _ _ (fun h => ?_); simp_all; done) | exact .same _) rfl (by first | exact .strip _ _ id | (refine .strip _ _ (fun h => ?_); simp_all; done) | exact .same _)) rfl rfl ?_ | refine AOps.gread rfl rfl rfl rfl rfl (.cons 77 _ _ _ rfl (by first | exact .strip _ _ id | (refine .strip _ _ (fun h => ?_); simp_all; done) | exact .same _) (.cons 80 _ _ _ rfl (by first | exact .strip _ _ id | (refine .strip _ _ (fun h => ?_); simp_all; done) | exact .same _) .nil)) (fun hG => ARead.pick rfl rfl rfl) rfl rfl ?_
              first | refine AOps.read (ARead.pickB rfl rfl rfl (by first | exact .strip _ _ id | (refine .strip _ _ (fun h => ?_); simp_all; done) | exact .same _) rfl (by first | exact .strip _ _ id | (refine .strip _ _ (fun h => ?_); simp_all; done) | exact .same _)) rfl rfl rfl ?_ | refine AOps.read (ARead.pick rfl rfl rfl) rfl rfl rfl ?_
              refine AOps.keep [82] rfl ?_
              refine AOps.read (ARead.assign rfl rfl) rfl rfl rfl ?_
              refine AOps.nil (hK36 _ _ _ ?_); clear hK36 K36
              refine AWp.keep [70] rfl ?_
              refine AWp.cond rfl (fun hb37 => ?_) (fun hb37 => ?_)
              · have hc37 := hb37; clear hb37; try simp only [decide_eq_true_eq, decide_eq_false_iff_not, Bool.not_eq_true, Bool.not_eq_false, Int.not_lt, Int.not_le, Bool.not_eq_true', Bool.not_eq_false'] at hc37
                refine AWp.regK fun K38 hK38 => ?_
                refine AOps.read (ARead.assign rfl rfl) rfl rfl rfl ?_
                refine AOps.nil (hK38 _ _ _ ?_); clear hK38 K38
                refine AWp.keep [2] rfl ?_
                refine AWp.ret ?_
                refine ⟨Or.inr rfl, _, (.tmp _ _ _ _ rfl .nil), ?_⟩
                (try clear hK38 K38); (try clear hK37 K37); (try clear hK36 K36); (try clear hK35 K35); (try clear hK34 K34); (try clear hK33 K33); (try clear hK32 K32); (try clear hK31 K31); (try clear hK30 K30); (try clear hK29 K29); (try clear hK28 K28); (try clear hK27 K27); (try clear hK26 K26); (try clear hK25 K25); (try clear hK24 K24); (try clear hK23 K23); (try clear hK22 K22); (try clear hK21 K21); (try clear hK20 K20); (try clear hK19 K19); (try clear hK18 K18); (try clear hK17 K17); (try clear hK16 K16); (try clear hK15 K15); (try clear hK14 K14); (try clear hK13 K13); (try clear hK12 K12); (try clear hK11 K11); (try clear hK10 K10); (try clear hK9 K9); (try clear hK8 K8); (try clear hK7 K7); (try clear hK6 K6); (try clear hK5 K5); (try clear hK4 K4); (try clear hK3 K3); (try clear hK2 K2); (try clear hK1 K1)
                show packR _ = _
                grind [packR, checkOpF]
              · have hc37 := hb37; clear hb37; try simp only [decide_eq_true_eq, decide_eq_false_iff_not, Bool.not_eq_true, Bool.not_eq_false, Int.not_lt, Int.not_le, Bool.not_eq_true', Bool.not_eq_false'] at hc37
                refine AWp.skip (hK3 _ _ _ ?_); try clear hK3 K3
                refine AWp.keep [] rfl ?_
                refine AWp.regK fun K39 hK39 => ?_
                refine AOps.read (ARead.assign rfl rfl) rfl rfl rfl ?_
                refine AOps.nil (hK39 _ _ _ ?_); clear hK39 K39
                refine AWp.keep [2] rfl ?_
                refine AWp.ret ?_
                refine ⟨Or.inr rfl, _, (.tmp _ _ _ _ rfl .nil), ?_⟩
                (try clear hK39 K39); (try clear hK38 K38); (try clear hK37 K37); (try clear hK36 K36); (try clear hK35 K35); (try clear hK34 K34); (try clear hK33 K33); (try clear hK32 K32); (try clear hK31 K31); (try clear hK30 K30); (try clear hK29 K29); (try clear hK28 K28); (try clear hK27 K27); (try clear hK26 K26); (try clear hK25 K25); (try clear hK24 K24); (try clear hK23 K23); (try clear hK22 K22); (try clear hK21 K21); (try clear hK20 K20); (try clear hK19 K19); (try clear hK18 K18); (try clear hK17 K17); (try clear hK16 K16); (try clear hK15 K15); (try clear hK14 K14); (try clear hK13 K13); (try clear hK12 K12); (try clear hK11 K11); (try clear hK10 K10); (try clear hK9 K9); (try clear hK8 K8); (try clear hK7 K7); (try clear hK6 K6); (try clear hK5 K5); (try clear hK4 K4); (try clear hK3 K3); (try clear hK2 K2); (try clear hK1 K1)
                show packR _ = _
                grind [packR, checkOpF]
    · have hc24 := hb24; clear hb24; try simp only [decide_eq_true_eq, decide_eq_false_iff_not, Bool.not_eq_true, Bool.not_eq_false, Int.not_lt, Int.not_le, Bool.not_eq_true', Bool.not_eq_false'] at hc24
      refine AWp.regK fun K40 hK40 => ?_
      refine AOps.read (ARead.fieldAddr tabOk rfl rfl rfl rfl (by decide) rfl) rfl rfl rfl ?_
      refine AOps.read (ARead.load tabOk rfl rfl rfl (by repeat (first | exact Has.head _ | apply Has.tail)) (by first | decide | omega) rfl rfl) rfl rfl rfl ?_
      refine AOps.read (ARead.unOp rfl rfl rfl) rfl rfl rfl ?_
      refine AOps.read (ARead.move rfl rfl) rfl rfl rfl ?_
      refine AOps.keep [1, 3, 11, 25] rfl ?_
      refine AOps.gread rfl rfl rfl rfl rfl (.cons 1 _ _ _ rfl (by first | exact .strip _ _ id | (refine .strip _ _ (fun h => ?_); simp_all; done) | exact .same _) .nil) (fun hG => ARead.fieldAddr tabOk rfl rfl rfl rfl (by decide) rfl) rfl rfl ?_
      refine AOps.gread rfl rfl rfl rfl rfl (.cons 26 _ _ _ rfl (by first | exact .strip _ _ id | (refine .strip _ _ (fun h => ?_); simp_all; done) | exact .same _) .nil) (fun hG => ARead.load tabOk rfl rfl rfl (by repeat (first | exact Has.head _ | apply Has.tail)) (by first | decide | omega) rfl rfl) rfl rfl ?_
      refine AOps.gread rfl rfl rfl rfl rfl (.cons 27 _ _ _ rfl (by first | exact .strip _ _ id | (refine .strip _ _ (fun h => ?_); simp_all; done) | exact .same _) .nil) (fun hG => ARead.binOp rfl rfl rfl rfl) rfl rfl ?_
      first | refine AOps.read (ARead.pickB rfl rfl rfl (by first | exact .strip _ _ id | (refine .strip _ _ (fun h => ?_); simp_all; done) | exact .same _) rfl (by first | exact .strip _ _ id | (refine .strip _ _ (fun h => ?_); simp_all; done) | exact .same _)) rfl rfl rfl ?_ | refine AOps.read (ARead.pick rfl rfl rfl) rfl rfl rfl ?_
      refine AOps.keep [1, 3, 11, 29] rfl ?_
      refine AOps.read (ARead.assign rfl rfl) rfl rfl rfl ?_
      refine AOps.nil (hK40 _ _ _ ?_); clear hK40 K40
      refine AWp.keep [1, 3, 11] rfl ?_
      refine AWp.cond rfl (fun hb41 => ?_) (fun hb41 => ?_)
      · have hc41 := hb41; clear hb41; try simp only [decide_eq_true_eq, decide_eq_false_iff_not, Bool.not_eq_true, Bool.not_eq_false, Int.not_lt, Int.not_le, Bool.not_eq_true', Bool.not_eq_false'] at hc41
        refine AWp.skip (hK5 _ _ _ ?_); try clear hK5 K5
        refine AWp.keep [1, 3, 11] rfl ?_
        refine AWp.cond rfl (fun hb42 => ?_) (fun hb42 => ?_)
        · have hc42 := hb42; clear hb42; try simp only [decide_eq_true_eq, decide_eq_false_iff_not, Bool.not_eq_true, Bool.not_eq_false, Int.not_lt, Int.not_le, Bool.not_eq_true', Bool.not_eq_false'] at hc42
          refine AWp.regK fun K43 hK43 => ?_
          refine AOps.read (ARead.assign rfl rfl) rfl rfl rfl ?_
          refine AOps.nil (hK43 _ _ _ ?_); clear hK43 K43
          refine AWp.keep [2] rfl ?_
          refine AWp.ret ?_
          refine ⟨Or.inr rfl, _, (.tmp _ _ _ _ rfl .nil), ?_⟩
          (try clear hK43 K43); (try clear hK42 K42); (try clear hK41 K41); (try clear hK40 K40); (try clear hK39 K39); (try clear hK38 K38); (try clear hK37 K37); (try clear hK36 K36); (try clear hK35 K35); (try clear hK34 K34); (try clear hK33 K33); (try clear hK32 K32); (try clear hK31 K31); (try clear hK30 K30); (try clear hK29 K29); (try clear hK28 K28); (try clear hK27 K27); (try clear hK26 K26); (try clear hK25 K25); (try clear hK24 K24); (try clear hK23 K23); (try clear hK22 K22); (try clear hK21 K21); (try clear hK20 K20); (try clear hK19 K19); (try clear hK18 K18); (try clear hK17 K17); (try clear hK16 K16); (try clear hK15 K15); (try clear hK14 K14); (try clear hK13 K13); (try clear hK12 K12); (try clear hK11 K11); (try clear hK10 K10); (try clear hK9 K9); (try clear hK8 K8); (try clear hK7 K7); (try clear hK6 K6); (try clear hK5 K5); (try clear hK4 K4); (try clear hK3 K3); (try clear hK2 K2); (try clear hK1 K1)
          show packR _ = _
          grind [packR, checkOpF]
        · have hc42 := hb42; clear hb42; try simp only [decide_eq_true_eq, decide_eq_false_iff_not, Bool.not_eq_true, Bool.not_eq_false, Int.not_lt, Int.not_le, Bool.not_eq_true', Bool.not_eq_false'] at hc42
          refine AWp.regK fun K44 hK44 => ?_
          refine AOps.read (ARead.fieldAddr tabOk rfl rfl rfl rfl (by decide) rfl) rfl rfl rfl ?_
          refine AOps.read (ARead.load tabOk rfl rfl rfl (by repeat (first | exact Has.head _ | apply Has.tail)) (by first | decide | omega) rfl rfl) rfl rfl rfl ?_
          refine AOps.read (ARead.move rfl rfl) rfl rfl rfl ?_
          refine AOps.gread rfl rfl rfl rfl rfl (.cons 1 _ _ _ rfl (by first | exact .strip _ _ id | (refine .strip _ _ (fun h => ?_); simp_all; done) | exact .same _) .nil) (fun hG => ARead.fieldAddr tabOk rfl rfl rfl rfl (by decide) rfl) rfl rfl ?_
          refine AOps.keep [1, 3, 50, 51] rfl ?_
          refine AOps.gread rfl rfl rfl rfl rfl (.cons 51 _ _ _ rfl (by first | exact .strip _ _ id | (refine .strip _ _ (fun h => ?_); simp_all; done) | exact .same _) .nil) (fun hG => ARead.load tabOk rfl rfl rfl (by repeat (first | exact Has.head _ | apply Has.tail)) (by first | decide | omega) rfl rfl) rfl rfl ?_
          refine AOps.gpcall rfl rfl rfl rfl rfl (.cons 52 _ _ _ rfl (by first | exact .strip _ _ id | (refine .strip _ _ (fun h => ?_); simp_all; done) | exact .same _) .nil) rfl (by first | exact .inr ⟨rfl, rfl, rfl⟩ | exact .inl rfl) rfl (fun hG => checkKey_ok _) rfl rfl (fun N hN => ?_)
          refine AOps.gread rfl rfl rfl rfl rfl (.cons 53 _ _ _ rfl (by first | exact .strip _ _ id | (refine .strip _ _ (fun h => ?_); simp_all; done) | exact .same _) .nil) (fun hG => ARead.binOp rfl rfl rfl rfl) rfl rfl ?_
          first | refine AOps.read (ARead.pickB rfl rfl rfl (by first | exact .strip _ _ id | (refine .strip _ _ (fun h => ?_); simp_all; done) | exact .same _) rfl (by first | exact .strip _ _ id | (refine .strip _ _ (fun h => ?_); simp_all; done) | exact .same _)) rfl rfl rfl ?_ | refine AOps.read (ARead.pick rfl rfl rfl) rfl rfl rfl ?_
          refine AOps.keep [1, 3, 55] rfl ?_
          refine AOps.read (ARead.assign rfl rfl) rfl rfl rfl ?_
          refine AOps.nil (hK44 _ _ _ ?_); clear hK44 K44
          refine AWp.keep [1, 3, 47] rfl ?_
          refine AWp.cond rfl (fun hb45 => ?_) (fun hb45 => ?_)
          · have hc45 := hb45; clear hb45; try simp only [decide_eq_true_eq, decide_eq_false_iff_not, Bool.not_eq_true, Bool.not_eq_false, Int.not_lt, Int.not_le, Bool.not_eq_true', Bool.not_eq_false'] at hc45
            refine AWp.regK fun K46 hK46 => ?_
            refine AOps.read (ARead.assign rfl rfl) rfl rfl rfl ?_
            refine AOps.nil (hK46 _ _ _ ?_); clear hK46 K46
            refine AWp.keep [2] rfl ?_
            refine AWp.ret ?_
            refine ⟨Or.inr rfl, _, (.tmp _ _ _ _ rfl .nil), ?_⟩
            (try clear hK46 K46); (try clear hK45 K45); (try clear hK44 K44); (try clear hK43 K43); (try clear hK42 K42); (try clear hK41 K41); (try clear hK40 K40); (try clear hK39 K39); (try clear hK38 K38); (try clear hK37 K37); (try clear hK36 K36); (try clear hK35 K35); (try clear hK34 K34); (try clear hK33 K33); (try clear hK32 K32); (try clear hK31 K31); (try clear hK30 K30); (try clear hK29 K29); (try clear hK28 K28); (try clear hK27 K27); (try clear hK26 K26); (try clear hK25 K25); (try clear hK24 K24); (try clear hK23 K23); (try clear hK22 K22); (try clear hK21 K21); (try clear hK20 K20); (try clear hK19 K19); (try clear hK18 K18); (try clear hK17 K17); (try clear hK16 K16); (try clear hK15 K15); (try clear hK14 K14); (try clear hK13 K13); (try clear hK12 K12); (try clear hK11 K11); (try clear hK10 K10); (try clear hK9 K9); (try clear hK8 K8); (try clear hK7 K7); (try clear hK6 K6); (try clear hK5 K5); (try clear hK4 K4); (try clear hK3 K3); (try clear hK2 K2); (try clear hK1 K1)
            show packR _ = _
            grind [packR, checkOpF]
          · have hc45 := hb45; clear hb45; try simp only [decide_eq_true_eq, decide_eq_false_iff_not, Bool.not_eq_true, Bool.not_eq_false, Int.not_lt, Int.not_le, Bool.not_eq_true', Bool.not_eq_false'] at hc45
            refine AWp.regK fun K47 hK47 => ?_
            refine AOps.read (ARead.fieldAddr tabOk rfl rfl rfl rfl (by decide) rfl) rfl rfl rfl ?_
            refine AOps.read (ARead.load tabOk rfl rfl rfl (by repeat (first | exact Has.head _ | apply Has.tail)) (by first | decide | omega) rfl rfl) rfl rfl rfl ?_
            refine AOps.read (ARead.lenStr tabOk rfl rfl rfl rfl) rfl rfl rfl ?_
            refine AOps.read (ARead.binOp rfl rfl rfl rfl) rfl rfl rfl ?_
            refine AOps.keep [1, 3, 60] rfl ?_
            refine AOps.read (ARead.assign rfl rfl) rfl rfl rfl ?_
            refine AOps.nil (hK47 _ _ _ ?_); clear hK47 K47
            refine AWp.keep [1, 3, 56] rfl ?_
            refine AWp.cond rfl (fun hb48 => ?_) (fun hb48 => ?_)
            · have hc48 := hb48; clear hb48; try simp only [decide_eq_true_eq, decide_eq_false_iff_not, Bool.not_eq_true, Bool.not_eq_false, Int.not_lt, Int.not_le, Bool.not_eq_true', Bool.not_eq_false'] at hc48
              refine AWp.regK fun K49 hK49 => ?_
              refine AOps.read (ARead.assign rfl rfl) rfl rfl rfl ?_
              refine AOps.nil (hK49 _ _ _ ?_); clear hK49 K49
              refine AWp.keep [2] rfl ?_
              refine AWp.ret ?_
              refine ⟨Or.inr rfl, _, (.tmp _ _ _ _ rfl .nil), ?_⟩
              (try clear hK49 K49); (try clear hK48 K48); (try clear hK47 K47); (try clear hK46 K46); (try clear hK45 K45); (try clear hK44 K44); (try clear hK43 K43); (try clear hK42 K42); (try clear hK41 K41); (try clear hK40 K40); (try clear hK39 K39); (try clear hK38 K38); (try clear hK37 K37); (try clear hK36 K36); (try clear hK35 K35); (try clear hK34 K34); (try clear hK33 K33); (try clear hK32 K32); (try clear hK31 K31); (try clear hK30 K30); (try clear hK29 K29); (try clear hK28 K28); (try clear hK27 K27); (try clear hK26 K26); (try clear hK25 K25); (try clear hK24 K24); (try clear hK23 K23); (try clear hK22 K22); (try clear hK21 K21); (try clear hK20 K20); (try clear hK19 K19); (try clear hK18 K18); (try clear hK17 K17); (try clear hK16 K16); (try clear hK15 K15); (try clear hK14 K14); (try clear hK13 K13); (try clear hK12 K12); (try clear hK11 K11); (try clear hK10 K10); (try clear hK9 K9); (try clear hK8 K8); (try clear hK7 K7); (try clear hK6 K6); (try clear hK5 K5); (try clear hK4 K4); (try clear hK3 K3); (try clear hK2 K2); (try clear hK1 K1)
              show packR _ = _
              grind [packR, checkOpF]
            · have hc48 := hb48; clear hb48; try simp only [decide_eq_true_eq, decide_eq_false_iff_not, Bool.not_eq_true, Bool.not_eq_false, Int.not_lt, Int.not_le, Bool.not_eq_true', Bool.not_eq_false'] at hc48
              refine AWp.regK fun K50 hK50 => ?_
              refine AOps.read (ARead.fieldAddr tabOk rfl rfl rfl rfl (by decide) rfl) rfl rfl rfl ?_
              refine AOps.read (ARead.load tabOk rfl rfl rfl (by repeat (first | exact Has.head _ | apply Has.tail)) (by first | decide | omega) rfl rfl) rfl rfl rfl ?_
              refine AOps.read (ARead.move rfl rfl) rfl rfl rfl ?_
              refine AOps.gread rfl rfl rfl rfl rfl (.cons 1 _ _ _ rfl (by first | exact .strip _ _ id | (refine .strip _ _ (fun h => ?_); simp_all; done) | exact .same _) .nil) (fun hG => ARead.load tabOk rfl rfl rfl (by repeat (first | exact Has.head _ | apply Has.tail)) (by first | decide | omega) rfl rfl) rfl rfl ?_
              refine AOps.keep [1, 3, 64, 65] rfl ?_
              refine AOps.gpcall rfl rfl rfl rfl rfl (.cons 65 _ _ _ rfl (by first | exact .strip _ _ id | (refine .strip _ _ (fun h => ?_); simp_all; done) | exact .same _) .nil) rfl (by first | exact .inr ⟨rfl, rfl, rfl⟩ | exact .inl rfl) rfl (fun hG => opOf_ok _) rfl rfl (fun N hN => ?_)
              refine AOps.gpcall rfl rfl rfl rfl rfl (.cons 66 _ _ _ rfl (by first | exact .strip _ _ id | (refine .strip _ _ (fun h => ?_); simp_all; done) | exact .same _) .nil) rfl (by first | exact .inr ⟨rfl, rfl, rfl⟩ | exact .inl rfl) rfl (fun hG => spanCheck_ok _ _) rfl rfl (fun N hN => ?_)
              refine AOps.gread rfl rfl rfl rfl rfl (.cons 67 _ _ _ rfl (by first | exact .strip _ _ id | (refine .strip _ _ (fun h => ?_); simp_all; done) | exact .same _) .nil) (fun hG => ARead.binOp rfl rfl rfl rfl) rfl rfl ?_
              first | refine AOps.read (ARead.pickB rfl rfl rfl (by first | exact .strip _ _ id | (refine .strip _ _ (fun h => ?_); simp_all; done) | exact .same _) rfl (by first | exact .strip _ _ id | (refine .strip _ _ (fun h => ?_); simp_all; done) | exact .same _)) rfl rfl rfl ?_ | refine AOps.read (ARead.pick rfl rfl rfl) rfl rfl rfl ?_
              refine AOps.keep [1, 3, 69] rfl ?_
              refine AOps.read (ARead.assign rfl rfl) rfl rfl rfl ?_
              refine AOps.nil (hK50 _ _ _ ?_); clear hK50 K50
              refine AWp.keep [1, 3, 61] rfl ?_
              refine AWp.cond rfl (fun hb51 => ?_) (fun hb51 => ?_)
              · have hc51 := hb51; clear hb51; try simp only [decide_eq_true_eq, decide_eq_false_iff_not, Bool.not_eq_true, Bool.not_eq_false, Int.not_lt, Int.not_le, Bool.not_eq_true', Bool.not_eq_false'] at hc51
                refine AWp.regK fun K52 hK52 => ?_
                refine AOps.read (ARead.assign rfl rfl) rfl rfl rfl ?_
                refine AOps.nil (hK52 _ _ _ ?_); clear hK52 K52
                refine AWp.keep [2] rfl ?_
                refine AWp.ret ?_
                refine ⟨Or.inr rfl, _, (.tmp _ _ _ _ rfl .nil), ?_⟩
                (try clear hK52 K52); (try clear hK51 K51); (try clear hK50 K50); (try clear hK49 K49); (try clear hK48 K48); (try clear hK47 K47); (try clear hK46 K46); (try clear hK45 K45); (try clear hK44 K44); (try clear hK43 K43); (try clear hK42 K42); (try clear hK41 K41); (try clear hK40 K40); (try clear hK39 K39); (try clear hK38 K38); (try clear hK37 K37); (try clear hK36 K36); (try clear hK35 K35); (try clear hK34 K34); (try clear hK33 K33); (try clear hK32 K32); (try clear hK31 K31); (try clear hK30 K30); (try clear hK29 K29); (try clear hK28 K28); (try clear hK27 K27); (try clear hK26 K26); (try clear hK25 K25); (try clear hK24 K24); (try clear hK23 K23); (try clear hK22 K22); (try clear hK21 K21); (try clear hK20 K20); (try clear hK19 K19); (try clear hK18 K18); (try clear hK17 K17); (try clear hK16 K16); (try clear hK15 K15); (try clear hK14 K14); (try clear hK13 K13); (try clear hK12 K12); (try clear hK11 K11); (try clear hK10 K10); (try clear hK9 K9); (try clear hK8 K8); (try clear hK7 K7); (try clear hK6 K6); (try clear hK5 K5); (try clear hK4 K4); (try clear hK3 K3); (try clear hK2 K2); (try clear hK1 K1)
                show packR _ = _
                grind [packR, checkOpF]
              · have hc51 := hb51; clear hb51; try simp only [decide_eq_true_eq, decide_eq_false_iff_not, Bool.not_eq_true, Bool.not_eq_false, Int.not_lt, Int.not_le, Bool.not_eq_true', Bool.not_eq_false'] at hc51
                refine AWp.regK fun K53 hK53 => ?_
                refine AOps.read (ARead.fieldAddr tabOk rfl rfl rfl rfl (by decide) rfl) rfl rfl rfl ?_
                refine AOps.read (ARead.load tabOk rfl rfl rfl (by repeat (first | exact Has.head _ | apply Has.tail)) (by first | decide | omega) rfl rfl) rfl rfl rfl ?_
                refine AOps.read (ARead.move rfl rfl) rfl rfl rfl ?_
                refine AOps.gread rfl rfl rfl rfl rfl (.cons 1 _ _ _ rfl (by first | exact .strip _ _ id | (refine .strip _ _ (fun h => ?_); simp_all; done) | exact .same _) .nil) (fun hG => ARead.fieldAddr tabOk rfl rfl rfl rfl (by decide) rfl) rfl rfl ?_
                refine AOps.keep [1, 73, 74] rfl ?_
                refine AOps.gread rfl rfl rfl rfl rfl (.cons 74 _ _ _ rfl (by first | exact .strip _ _ id | (refine .strip _ _ (fun h => ?_); simp_all; done) | exact .same _) .nil) (fun hG => ARead.load tabOk rfl rfl rfl (by repeat (first | exact Has.head _ | apply Has.tail)) (by first | decide | omega) rfl rfl) rfl rfl ?_
                refine AOps.gread rfl rfl rfl rfl rfl (.cons 75 _ _ _ rfl (by first | exact .strip _ _ id | (refine .strip _ _ (fun h => ?_); simp_all; done) | exact .same _) .nil) (fun hG => ARead.binOp rfl rfl rfl rfl) rfl rfl ?_
                refine AOps.gread rfl rfl rfl rfl rfl (.cons 76 _ _ _ rfl (by first | exact .strip _ _ id | (refine .strip _ _ (fun h => ?_); simp_all; done) | exact .same _) .nil) (fun hG => ARead.move rfl rfl) rfl rfl ?_
                refine AOps.gread rfl rfl rfl rfl rfl (.cons 1 _ _ _ rfl (by first | exact .strip _ _ id | (refine .strip _ _ (fun h => ?_); simp_all; done) | exact .same _) .nil) (fun hG => ARead.fieldAddr tabOk rfl rfl rfl rfl (by decide) rfl) rfl rfl ?_
                refine AOps.keep [73, 77, 78] rfl ?_
                refine AOps.gread rfl rfl rfl rfl rfl (.cons 78 _ _ _ rfl (by first | exact .strip _ _ id | (refine .strip _ _ (fun h => ?_); simp_all; done) | exact .same _) .nil) (fun hG => ARead.load tabOk rfl rfl rfl (by repeat (first | exact Has.head _ | apply Has.tail)) (by first | decide | omega) rfl rfl) rfl rfl ?_
                refine AOps.gread rfl rfl rfl rfl rfl (.cons 79 _ _ _ rfl (by first | exact .strip _ _ id | (refine .strip _ _ (fun h => ?_); simp_all; done) | exact .same _) .nil) (fun hG => ARead.binOp rfl rfl rfl rfl) rfl rfl ?_
                first | refine AOps.gread rfl rfl rfl rfl rfl (.cons 77 _ _ _ rfl (by first | exact .strip _ _ id | (refine .strip _ _ (fun h => ?_); simp_all; done) | exact .same _) (.cons 80 _ _ _ rfl (by first | exact .strip _ _ id | (refine .strip _ _ (fun h => ?_); simp_all; done) | exact .same _) .nil)) (fun hG => ARead.pickB rfl rfl rfl (by first | exact .strip _ _ id | (refine .strip _ _ (fun h => ?_); simp_all; done) | exact .same _) rfl (by first | exact .strip _ _ id | (refine .strip _ _ (fun h => ?_); simp_all; done) | exact .same _)) rfl rfl ?_ | refine AOps.gread rfl rfl rfl rfl rfl (.cons 77 _ _ _ rfl (by first | exact .strip _ _ id | (refine .strip _ _ (fun h => ?_); simp_all; done) | exact .same _) (.cons 80 _ _ _ rfl (by first | exact .strip _ _ id | (refine .strip _ _ (fun h => ?_); simp_all; done) | exact .same _) .nil)) (fun hG => ARead.pick rfl rfl rfl) rfl rfl ?_
                first | refine AOps.read (ARead.pickB rfl rfl rfl (by first | exact .strip _ _ id | (refine .strip _ _ (fun h => ?_); simp_all; done) | exact .same _) rfl (by first | exact .strip _ _ id | (refine .strip _ _ (fun h => ?_); simp_all; done) | exact .same _)) rfl rfl rfl ?_ | refine AOps.read (ARead.pick rfl rfl rfl) rfl rfl rfl ?_
                refine AOps.keep [82] rfl ?_
                refine AOps.read (ARead.assign rfl rfl) rfl rfl rfl ?_
                refine AOps.nil (hK53 _ _ _ ?_); clear hK53 K53
                refine AWp.keep [70] rfl ?_
                refine AWp.cond rfl (fun hb54 => ?_) (fun hb54 => ?_)
                · have hc54 := hb54; clear hb54; try simp only [decide_eq_true_eq, decide_eq_false_iff_not, Bool.not_eq_true, Bool.not_eq_false, Int.not_lt, Int.not_le, Bool.not_eq_true', Bool.not_eq_false'] at hc54
                  refine AWp.regK fun K55 hK55 => ?_
                  refine AOps.read (ARead.assign rfl rfl) rfl rfl rfl ?_
                  refine AOps.nil (hK55 _ _ _ ?_); clear hK55 K55
                  refine AWp.keep [2] rfl ?_
                  refine AWp.ret ?_
                  refine ⟨Or.inr rfl, _, (.tmp _ _ _ _ rfl .nil), ?_⟩
                  (try clear hK55 K55); (try clear hK54 K54); (try clear hK53 K53); (try clear hK52 K52); (try clear hK51 K51); (try clear hK50 K50); (try clear hK49 K49); (try clear hK48 K48); (try clear hK47 K47); (try clear hK46 K46); (try clear hK45 K45); (try clear hK44 K44); (try clear hK43 K43); (try clear hK42 K42); (try clear hK41 K41); (try clear hK40 K40); (try clear hK39 K39); (try clear hK38 K38); (try clear hK37 K37); (try clear hK36 K36); (try clear hK35 K35); (try clear hK34 K34); (try clear hK33 K33); (try clear hK32 K32); (try clear hK31 K31); (try clear hK30 K30); (try clear hK29 K29); (try clear hK28 K28); (try clear hK27 K27); (try clear hK26 K26); (try clear hK25 K25); (try clear hK24 K24); (try clear hK23 K23); (try clear hK22 K22); (try clear hK21 K21); (try clear hK20 K20); (try clear hK19 K19); (try clear hK18 K18); (try clear hK17 K17); (try clear hK16 K16); (try clear hK15 K15); (try clear hK14 K14); (try clear hK13 K13); (try clear hK12 K12); (try clear hK11 K11); (try clear hK10 K10); (try clear hK9 K9); (try clear hK8 K8); (try clear hK7 K7); (try clear hK6 K6); (try clear hK5 K5); (try clear hK4 K4); (try clear hK3 K3); (try clear hK2 K2); (try clear hK1 K1)
                  show packR _ = _
                  grind [packR, checkOpF]
                · have hc54 := hb54; clear hb54; try simp only [decide_eq_true_eq, decide_eq_false_iff_not, Bool.not_eq_true, Bool.not_eq_false, Int.not_lt, Int.not_le, Bool.not_eq_true', Bool.not_eq_false'] at hc54
                  refine AWp.skip (hK3 _ _ _ ?_); try clear hK3 K3
                  refine AWp.keep [] rfl ?_
                  refine AWp.regK fun K56 hK56 => ?_
                  refine AOps.read (ARead.assign rfl rfl) rfl rfl rfl ?_
                  refine AOps.nil (hK56 _ _ _ ?_); clear hK56 K56
                  refine AWp.keep [2] rfl ?_
                  refine AWp.ret ?_
                  refine ⟨Or.inr rfl, _, (.tmp _ _ _ _ rfl .nil), ?_⟩
                  (try clear hK56 K56); (try clear hK55 K55); (try clear hK54 K54); (try clear hK53 K53); (try clear hK52 K52); (try clear hK51 K51); (try clear hK50 K50); (try clear hK49 K49); (try clear hK48 K48); (try clear hK47 K47); (try clear hK46 K46); (try clear hK45 K45); (try clear hK44 K44); (try clear hK43 K43); (try clear hK42 K42); (try clear hK41 K41); (try clear hK40 K40); (try clear hK39 K39); (try clear hK38 K38); (try clear hK37 K37); (try clear hK36 K36); (try clear hK35 K35); (try clear hK34 K34); (try clear hK33 K33); (try clear hK32 K32); (try clear hK31 K31); (try clear hK30 K30); (try clear hK29 K29); (try clear hK28 K28); (try clear hK27 K27); (try clear hK26 K26); (try clear hK25 K25); (try clear hK24 K24); (try clear hK23 K23); (try clear hK22 K22); (try clear hK21 K21); (try clear hK20 K20); (try clear hK19 K19); (try clear hK18 K18); (try clear hK17 K17); (try clear hK16 K16); (try clear hK15 K15); (try clear hK14 K14); (try clear hK13 K13); (try clear hK12 K12); (try clear hK11 K11); (try clear hK10 K10); (try clear hK9 K9); (try clear hK8 K8); (try clear hK7 K7); (try clear hK6 K6); (try clear hK5 K5); (try clear hK4 K4); (try clear hK3 K3); (try clear hK2 K2); (try clear hK1 K1)
                  show packR _ = _
                  grind [packR, checkOpF]
      · have hc41 := hb41; clear hb41; try simp only [decide_eq_true_eq, decide_eq_false_iff_not, Bool.not_eq_true, Bool.not_eq_false, Int.not_lt, Int.not_le, Bool.not_eq_true', Bool.not_eq_false'] at hc41
        refine AWp.regK fun K57 hK57 => ?_
        refine AOps.read (ARead.fieldAddr tabOk rfl rfl rfl rfl (by decide) rfl) rfl rfl rfl ?_
        refine AOps.read (ARead.load tabOk rfl rfl rfl (by repeat (first | exact Has.head _ | apply Has.tail)) (by first | decide | omega) rfl rfl) rfl rfl rfl ?_
        refine AOps.read (ARead.unOp rfl rfl rfl) rfl rfl rfl ?_
        refine AOps.read (ARead.move rfl rfl) rfl rfl rfl ?_
        refine AOps.keep [1, 3, 11, 33] rfl ?_
        refine AOps.gread rfl rfl rfl rfl rfl (.cons 1 _ _ _ rfl (by first | exact .strip _ _ id | (refine .strip _ _ (fun h => ?_); simp_all; done) | exact .same _) .nil) (fun hG => ARead.load tabOk rfl rfl rfl (by repeat (first | exact Has.head _ | apply Has.tail)) (by first | decide | omega) rfl rfl) rfl rfl ?_
        refine AOps.gpcall rfl rfl rfl rfl rfl (.cons 34 _ _ _ rfl (by first | exact .strip _ _ id | (refine .strip _ _ (fun h => ?_); simp_all; done) | exact .same _) .nil) rfl (by first | exact .inr ⟨rfl, rfl, rfl⟩ | exact .inl rfl) rfl (fun hG => opOf_ok _) rfl rfl (fun N hN => ?_)
        refine AOps.gread rfl rfl rfl rfl rfl .nil (fun hG => ARead.build tabOk rfl rfl rfl rfl rfl rfl rfl) rfl rfl ?_
        refine AOps.gread rfl rfl rfl rfl rfl (.cons 35 _ _ _ rfl (by first | exact .strip _ _ id | (refine .strip _ _ (fun h => ?_); simp_all; done) | exact .same _) (.cons 36 _ _ _ rfl (by first | exact .strip _ _ id | (refine .strip _ _ (fun h => ?_); simp_all; done) | exact .same _) .nil)) (fun hG => ARead.eqT tabOk (neg := true) rfl rfl rfl rfl rfl rfl rfl) rfl rfl ?_
        refine AOps.keep [1, 3, 11, 33, 37] rfl ?_
        first | refine AOps.read (ARead.pickB rfl rfl rfl (by first | exact .strip _ _ id | (refine .strip _ _ (fun h => ?_); simp_all; done) | exact .same _) rfl (by first | exact .strip _ _ id | (refine .strip _ _ (fun h => ?_); simp_all; done) | exact .same _)) rfl rfl rfl ?_ | refine AOps.read (ARead.pick rfl rfl rfl) rfl rfl rfl ?_
        refine AOps.read (ARead.assign rfl rfl) rfl rfl rfl ?_
        refine AOps.nil (hK57 _ _ _ ?_); clear hK57 K57
        refine AWp.keep [1, 3, 11] rfl ?_
        refine AWp.cond rfl (fun hb58 => ?_) (fun hb58 => ?_)
        · have hc58 := hb58; clear hb58; try simp only [decide_eq_true_eq, decide_eq_false_iff_not, Bool.not_eq_true, Bool.not_eq_false, Int.not_lt, Int.not_le, Bool.not_eq_true', Bool.not_eq_false'] at hc58
          refine AWp.skip (hK5 _ _ _ ?_); try clear hK5 K5
          refine AWp.keep [1, 3, 11] rfl ?_
          refine AWp.cond rfl (fun hb59 => ?_) (fun hb59 => ?_)
          · have hc59 := hb59; clear hb59; try simp only [decide_eq_true_eq, decide_eq_false_iff_not, Bool.not_eq_true, Bool.not_eq_false, Int.not_lt, Int.not_le, Bool.not_eq_true', Bool.not_eq_false'] at hc59
            refine AWp.regK fun K60 hK60 => ?_
            refine AOps.read (ARead.assign rfl rfl) rfl rfl rfl ?_
            refine AOps.nil (hK60 _ _ _ ?_); clear hK60 K60
            refine AWp.keep [2] rfl ?_
            refine AWp.ret ?_
            refine ⟨Or.inr rfl, _, (.tmp _ _ _ _ rfl .nil), ?_⟩
            (try clear hK60 K60); (try clear hK59 K59); (try clear hK58 K58); (try clear hK57 K57); (try clear hK56 K56); (try clear hK55 K55); (try clear hK54 K54); (try clear hK53 K53); (try clear hK52 K52); (try clear hK51 K51); (try clear hK50 K50); (try clear hK49 K49); (try clear hK48 K48); (try clear hK47 K47); (try clear hK46 K46); (try clear hK45 K45); (try clear hK44 K44); (try clear hK43 K43); (try clear hK42 K42); (try clear hK41 K41); (try clear hK40 K40); (try clear hK39 K39); (try clear hK38 K38); (try clear hK37 K37); (try clear hK36 K36); (try clear hK35 K35); (try clear hK34 K34); (try clear hK33 K33); (try clear hK32 K32); (try clear hK31 K31); (try clear hK30 K30); (try clear hK29 K29); (try clear hK28 K28); (try clear hK27 K27); (try clear hK26 K26); (try clear hK25 K25); (try clear hK24 K24); (try clear hK23 K23); (try clear hK22 K22); (try clear hK21 K21); (try clear hK20 K20); (try clear hK19 K19); (try clear hK18 K18); (try clear hK17 K17); (try clear hK16 K16); (try clear hK15 K15); (try clear hK14 K14); (try clear hK13 K13); (try clear hK12 K12); (try clear hK11 K11); (try clear hK10 K10); (try clear hK9 K9); (try clear hK8 K8); (try clear hK7 K7); (try clear hK6 K6); (try clear hK5 K5); (try clear hK4 K4); (try clear hK3 K3); (try clear hK2 K2); (try clear hK1 K1)
            show packR _ = _
            grind [packR, checkOpF]
          · have hc59 := hb59; clear hb59; try simp only [decide_eq_true_eq, decide_eq_false_iff_not, Bool.not_eq_true, Bool.not_eq_false, Int.not_lt, Int.not_le, Bool.not_eq_true', Bool.not_eq_false'] at hc59
            refine AWp.regK fun K61 hK61 => ?_
            refine AOps.read (ARead.fieldAddr tabOk rfl rfl rfl rfl (by decide) rfl) rfl rfl rfl ?_
            refine AOps.read (ARead.load tabOk rfl rfl rfl (by repeat (first | exact Has.head _ | apply Has.tail)) (by first | decide | omega) rfl rfl) rfl rfl rfl ?_
            refine AOps.read (ARead.move rfl rfl) rfl rfl rfl ?_
            refine AOps.gread rfl rfl rfl rfl rfl (.cons 1 _ _ _ rfl (by first | exact .strip _ _ id | (refine .strip _ _ (fun h => ?_); simp_all; done) | exact .same _) .nil) (fun hG => ARead.fieldAddr tabOk rfl rfl rfl rfl (by decide) rfl) rfl rfl ?_
            refine AOps.keep [1, 3, 50, 51] rfl ?_
            refine AOps.gread rfl rfl rfl rfl rfl (.cons 51 _ _ _ rfl (by first | exact .strip _ _ id | (refine .strip _ _ (fun h => ?_); simp_all; done) | exact .same _) .nil) (fun hG => ARead.load tabOk rfl rfl rfl (by repeat (first | exact Has.head _ | apply Has.tail)) (by first | decide | omega) rfl rfl) rfl rfl ?_
            refine AOps.gpcall rfl rfl rfl rfl rfl (.cons 52 _ _ _ rfl (by first | exact .strip _ _ id | (refine .strip _ _ (fun h => ?_); simp_all; done) | exact .same _) .nil) rfl (by first | exact .inr ⟨rfl, rfl, rfl⟩ | exact .inl rfl) rfl (fun hG => checkKey_ok _) rfl rfl (fun N hN => ?_)
            refine AOps.gread rfl rfl rfl rfl rfl (.cons 53 _ _ _ rfl (by first | exact .strip _ _ id | (refine .strip _ _ (fun h => ?_); simp_all; done) | exact .same _) .nil) (fun hG => ARead.binOp rfl rfl rfl rfl) rfl rfl ?_
            first | refine AOps.read (ARead.pickB rfl rfl rfl (by first | exact .strip _ _ id | (refine .strip _ _ (fun h => ?_); simp_all; done) | exact .same _) rfl (by first | exact .strip _ _ id | (refine .strip _ _ (fun h => ?_); simp_all; done) | exact .same _)) rfl rfl rfl ?_ | refine AOps.read (ARead.pick rfl rfl rfl) rfl rfl rfl ?_
            refine AOps.keep [1, 3, 55] rfl ?_
            refine AOps.read (ARead.assign rfl rfl) rfl rfl rfl ?_
            refine AOps.nil (hK61 _ _ _ ?_); clear hK61 K61
            refine AWp.keep [1, 3, 47] rfl ?_
            refine AWp.cond rfl (fun hb62 => ?_) (fun hb62 => ?_)
            · have hc62 := hb62; clear hb62; try simp only [decide_eq_true_eq, decide_eq_false_iff_not, Bool.not_eq_true, Bool.not_eq_false, Int.not_lt, Int.not_le, Bool.not_eq_true', Bool.not_eq_false'] at hc62
              refine AWp.regK fun K63 hK63 => ?_
              refine AOps.read (ARead.assign rfl rfl) rfl rfl rfl ?_
              refine AOps.nil (hK63 _ _ _ ?_); clear hK63 K63
              refine AWp.keep [2] rfl ?_
              refine AWp.ret ?_
              refine ⟨Or.inr rfl, _, (.tmp _ _ _ _ rfl .nil), ?_⟩
              (try clear hK63 K63); (try clear hK62 K62); (try clear hK61 K61); (try clear hK60 K60); (try clear hK59 K59); (try clear hK58 K58); (try clear hK57 K57); (try clear hK56 K56); (try clear hK55 K55); (try clear hK54 K54); (try clear hK53 K53); (try clear hK52 K52); (try clear hK51 K51); (try clear hK50 K50); (try clear hK49 K49); (try clear hK48 K48); (try clear hK47 K47); (try clear hK46 K46); (try clear hK45 K45); (try clear hK44 K44); (try clear hK43 K43); (try clear hK42 K42); (try clear hK41 K41); (try clear hK40 K40); (try clear hK39 K39); (try clear hK38 K38); (try clear hK37 K37); (try clear hK36 K36); (try clear hK35 K35); (try clear hK34 K34); (try clear hK33 K33); (try clear hK32 K32); (try clear hK31 K31); (try clear hK30 K30); (try clear hK29 K29); (try clear hK28 K28); (try clear hK27 K27); (try clear hK26 K26); (try clear hK25 K25); (try clear hK24 K24); (try clear hK23 K23); (try clear hK22 K22); (try clear hK21 K21); (try clear hK20 K20); (try clear hK19 K19); (try clear hK18 K18); (try clear hK17 K17); (try clear hK16 K16); (try clear hK15 K15); (try clear hK14 K14); (try clear hK13 K13); (try clear hK12 K12); (try clear hK11 K11); (try clear hK10 K10); (try clear hK9 K9); (try clear hK8 K8); (try clear hK7 K7); (try clear hK6 K6); (try clear hK5 K5); (try clear hK4 K4); (try clear hK3 K3); (try clear hK2 K2); (try clear hK1 K1)
              show packR _ = _
              grind [packR, checkOpF]
            · have hc62 := hb62; clear hb62; try simp only [decide_eq_true_eq, decide_eq_false_iff_not, Bool.not_eq_true, Bool.not_eq_false, Int.not_lt, Int.not_le, Bool.not_eq_true', Bool.not_eq_false'] at hc62
              refine AWp.regK fun K64 hK64 => ?_
              refine AOps.read (ARead.fieldAddr tabOk rfl rfl rfl rfl (by decide) rfl) rfl rfl rfl ?_
              refine AOps.read (ARead.load tabOk rfl rfl rfl (by repeat (first | exact Has.head _ | apply Has.tail)) (by first | decide | omega) rfl rfl) rfl rfl rfl ?_
              refine AOps.read (ARead.lenStr tabOk rfl rfl rfl rfl) rfl rfl rfl ?_
              refine AOps.read (ARead.binOp rfl rfl rfl rfl) rfl rfl rfl ?_
              refine AOps.keep [1, 3, 60] rfl ?_
              refine AOps.read (ARead.assign rfl rfl) rfl rfl rfl ?_
              refine AOps.nil (hK64 _ _ _ ?_); clear hK64 K64
              refine AWp.keep [1, 3, 56] rfl ?_
              refine AWp.cond rfl (fun hb65 => ?_) (fun hb65 => ?_)
              · have hc65 := hb65; clear hb65; try simp only [decide_eq_true_eq, decide_eq_false_iff_not, Bool.not_eq_true, Bool.not_eq_false, Int.not_lt, Int.not_le, Bool.not_eq_true', Bool.not_eq_false'] at hc65
                refine AWp.regK fun K66 hK66 => ?_
                refine AOps.read (ARead.assign rfl rfl) rfl rfl rfl ?_
                refine AOps.nil (hK66 _ _ _ ?_); clear hK66 K66
                refine AWp.keep [2] rfl ?_
                refine AWp.ret ?_
                refine ⟨Or.inr rfl, _, (.tmp _ _ _ _ rfl .nil), ?_⟩
                (try clear hK66 K66); (try clear hK65 K65); (try clear hK64 K64); (try clear hK63 K63); (try clear hK62 K62); (try clear hK61 K61); (try clear hK60 K60); (try clear hK59 K59); (try clear hK58 K58); (try clear hK57 K57); (try clear hK56 K56); (try clear hK55 K55); (try clear hK54 K54); (try clear hK53 K53); (try clear hK52 K52); (try clear hK51 K51); (try clear hK50 K50); (try clear hK49 K49); (try clear hK48 K48); (try clear hK47 K47); (try clear hK46 K46); (try clear hK45 K45); (try clear hK44 K44); (try clear hK43 K43); (try clear hK42 K42); (try clear hK41 K41); (try clear hK40 K40); (try clear hK39 K39); (try clear hK38 K38); (try clear hK37 K37); (try clear hK36 K36); (try clear hK35 K35); (try clear hK34 K34); (try clear hK33 K33); (try clear hK32 K32); (try clear hK31 K31); (try clear hK30 K30); (try clear hK29 K29); (try clear hK28 K28); (try clear hK27 K27); (try clear hK26 K26); (try clear hK25 K25); (try clear hK24 K24); (try clear hK23 K23); (try clear hK22 K22); (try clear hK21 K21); (try clear hK20 K20); (try clear hK19 K19); (try clear hK18 K18); (try clear hK17 K17); (try clear hK16 K16); (try clear hK15 K15); (try clear hK14 K14); (try clear hK13 K13); (try clear hK12 K12); (try clear hK11 K11); (try clear hK10 K10); (try clear hK9 K9); (try clear hK8 K8); (try clear hK7 K7); (try clear hK6 K6); (try clear hK5 K5); (try clear hK4 K4); (try clear hK3 K3); (try clear hK2 K2); (try clear hK1 K1)
                show packR _ = _
                grind [packR, checkOpF]
              · have hc65 := hb65; clear hb65; try simp only [decide_eq_true_eq, decide_eq_false_iff_not, Bool.not_eq_true, Bool.not_eq_false, Int.not_lt, Int.not_le, Bool.not_eq_true', Bool.not_eq_false'] at hc65
                refine AWp.regK fun K67 hK67 => ?_
                refine AOps.read (ARead.fieldAddr tabOk rfl rfl rfl rfl (by decide) rfl) rfl rfl rfl ?_
                refine AOps.read (ARead.load tabOk rfl rfl rfl (by repeat (first | exact Has.head _ | apply Has.tail)) (by first | decide | omega) rfl rfl) rfl rfl rfl ?_
                refine AOps.read (ARead.move rfl rfl) rfl rfl rfl ?_
                refine AOps.gread rfl rfl rfl rfl rfl (.cons 1 _ _ _ rfl (by first | exact .strip _ _ id | (refine .strip _ _ (fun h => ?_); simp_all; done) | exact .same _) .nil) (fun hG => ARead.load tabOk rfl rfl rfl (by repeat (first | exact Has.head _ | apply Has.tail)) (by first | decide | omega) rfl rfl) rfl rfl ?_
                refine AOps.keep [1, 3, 64, 65] rfl ?_
                refine AOps.gpcall rfl rfl rfl rfl rfl (.cons 65 _ _ _ rfl (by first | exact .strip _ _ id | (refine .strip _ _ (fun h => ?_); simp_all; done) | exact .same _) .nil) rfl (by first | exact .inr ⟨rfl, rfl, rfl⟩ | exact .inl rfl) rfl (fun hG => opOf_ok _) rfl rfl (fun N hN => ?_)
                refine AOps.gpcall rfl rfl rfl rfl rfl (.cons 66 _ _ _ rfl (by first | exact .strip _ _ id | (refine .strip _ _ (fun h => ?_); simp_all; done) | exact .same _) .nil) rfl (by first | exact .inr ⟨rfl, rfl, rfl⟩ | exact .inl rfl) rfl (fun hG => spanCheck_ok _ _) rfl rfl (fun N hN => ?_)
                refine AOps.gread rfl rfl rfl rfl rfl (.cons 67 _ _ _ rfl (by first | exact .strip _ _ id | (refine .strip _ _ (fun h => ?_); simp_all; done) | exact .same _) .nil) (fun hG => ARead.binOp rfl rfl rfl rfl) rfl rfl ?_
                first | refine AOps.read (ARead.pickB rfl rfl rfl (by first | exact .strip _ _ id | (refine .strip _ _ (fun h => ?_); simp_all; done) | exact .same _) rfl (by first | exact .strip _ _ id | (refine .strip _ _ (fun h => ?_); simp_all; done) | exact .same _)) rfl rfl rfl ?_ | refine AOps.read (ARead.pick rfl rfl rfl) rfl rfl rfl ?_
                refine AOps.keep [1, 3, 69] rfl ?_
                refine AOps.read (ARead.assign rfl rfl) rfl rfl rfl ?_
                refine AOps.nil (hK67 _ _ _ ?_); clear hK67 K67
                refine AWp.keep [1, 3, 61] rfl ?_
                refine AWp.cond rfl (fun hb68 => ?_) (fun hb68 => ?_)
                · have hc68 := hb68; clear hb68; try simp only [decide_eq_true_eq, decide_eq_false_iff_not, Bool.not_eq_true, Bool.not_eq_false, Int.not_lt, Int.not_le, Bool.not_eq_true', Bool.not_eq_false'] at hc68
                  refine AWp.regK fun K69 hK69 => ?_
                  refine AOps.read (ARead.assign rfl rfl) rfl rfl rfl ?_
                  refine AOps.nil (hK69 _ _ _ ?_); clear hK69 K69
                  refine AWp.keep [2] rfl ?_
                  refine AWp.ret ?_
                  refine ⟨Or.inr rfl, _, (.tmp _ _ _ _ rfl .nil), ?_⟩
                  (try clear hK69 K69); (try clear hK68 K68); (try clear hK67 K67); (try clear hK66 K66); (try clear hK65 K65); (try clear hK64 K64); (try clear hK63 K63); (try clear hK62 K62); (try clear hK61 K61); (try clear hK60 K60); (try clear hK59 K59); (try clear hK58 K58); (try clear hK57 K57); (try clear hK56 K56); (try clear hK55 K55); (try clear hK54 K54); (try clear hK53 K53); (try clear hK52 K52); (try clear hK51 K51); (try clear hK50 K50); (try clear hK49 K49); (try clear hK48 K48); (try clear hK47 K47); (try clear hK46 K46); (try clear hK45 K45); (try clear hK44 K44); (try clear hK43 K43); (try clear hK42 K42); (try clear hK41 K41); (try clear hK40 K40); (try clear hK39 K39); (try clear hK38 K38); (try clear hK37 K37); (try clear hK36 K36); (try clear hK35 K35); (try clear hK34 K34); (try clear hK33 K33); (try clear hK32 K32); (try clear hK31 K31); (try clear hK30 K30); (try clear hK29 K29); (try clear hK28 K28); (try clear hK27 K27); (try clear hK26 K26); (try clear hK25 K25); (try clear hK24 K24); (try clear hK23 K23); (try clear hK22 K22); (try clear hK21 K21); (try clear hK20 K20); (try clear hK19 K19); (try clear hK18 K18); (try clear hK17 K17); (try clear hK16 K16); (try clear hK15 K15); (try clear hK14 K14); (try clear hK13 K13); (try clear hK12 K12); (try clear hK11 K11); (try clear hK10 K10); (try clear hK9 K9); (try clear hK8 K8); (try clear hK7 K7); (try clear hK6 K6); (try clear hK5 K5); (try clear hK4 K4); (try clear hK3 K3); (try clear hK2 K2); (try clear hK1 K1)
                  show packR _ = _
                  grind [packR, checkOpF]
                · have hc68 := hb68; clear hb68; try simp only [decide_eq_true_eq, decide_eq_false_iff_not, Bool.not_eq_true, Bool.not_eq_false, Int.not_lt, Int.not_le, Bool.not_eq_true', Bool.not_eq_false'] at hc68
                  refine AWp.regK fun K70 hK70 => ?_
                  refine AOps.read (ARead.fieldAddr tabOk rfl rfl rfl rfl (by decide) rfl) rfl rfl rfl ?_
                  refine AOps.read (ARead.load tabOk rfl rfl rfl (by repeat (first | exact Has.head _ | apply Has.tail)) (by first | decide | omega) rfl rfl) rfl rfl rfl ?_
                  refine AOps.read (ARead.move rfl rfl) rfl rfl rfl ?_
                  refine AOps.gread rfl rfl rfl rfl rfl (.cons 1 _ _ _ rfl (by first | exact .strip _ _ id | (refine .strip _ _ (fun h => ?_); simp_all; done) | exact .same _) .nil) (fun hG => ARead.fieldAddr tabOk rfl rfl rfl rfl (by decide) rfl) rfl rfl ?_
                  refine AOps.keep [1, 73, 74] rfl ?_
                  refine AOps.gread rfl rfl rfl rfl rfl (.cons 74 _ _ _ rfl (by first | exact .strip _ _ id | (refine .strip _ _ (fun h => ?_); simp_all; done) | exact .same _) .nil) (fun hG => ARead.load tabOk rfl rfl rfl (by repeat (first | exact Has.head _ | apply Has.tail)) (by first | decide | omega) rfl rfl) rfl rfl ?_
                  refine AOps.gread rfl rfl rfl rfl rfl (.cons 75 _ _ _ rfl (by first | exact .strip _ _ id | (refine .strip _ _ (fun h => ?_); simp_all; done) | exact .same _) .nil) (fun hG => ARead.binOp rfl rfl rfl rfl) rfl rfl ?_
                  refine AOps.gread rfl rfl rfl rfl rfl (.cons 76 _ _ _ rfl (by first | exact .strip _ _ id | (refine .strip _ _ (fun h => ?_); simp_all; done) | exact .same _) .nil) (fun hG => ARead.move rfl rfl) rfl rfl ?_
                  refine AOps.gread rfl rfl rfl rfl rfl (.cons 1 _ _ _ rfl (by first | exact .strip _ _ id | (refine .strip _ _ (fun h => ?_); simp_all; done) | exact .same _) .nil) (fun hG => ARead.fieldAddr tabOk rfl rfl rfl rfl (by decide) rfl) rfl rfl ?_
                  refine AOps.keep [73, 77, 78] rfl ?_
                  refine AOps.gread rfl rfl rfl rfl rfl (.cons 78 _ _ _ rfl (by first | exact .strip _ _ id | (refine .strip _ _ (fun h => ?_); simp_all; done) | exact .same _) .nil) (fun hG => ARead.load tabOk rfl rfl rfl (by repeat (first | exact Has.head _ | apply Has.tail)) (by first | decide | omega) rfl rfl) rfl rfl ?_
                  refine AOps.gread rfl rfl rfl rfl rfl (.cons 79 _ _ _ rfl (by first | exact .strip _ _ id | (refine .strip _ _ (fun h => ?_); simp_all; done) | exact .same _) .nil) (fun hG => ARead.binOp rfl rfl rfl rfl) rfl rfl ?_
                  first | refine AOps.gread rfl rfl rfl rfl rfl (.cons 77 _ _ _ rfl (by first | exact .strip _ _ id | (refine .strip _ _ (fun h => ?_); simp_all; done) | exact .same _) (.cons 80 _ _ _ rfl (by first | exact .strip _ _ id | (refine .strip _ _ (fun h => ?_); simp_all; done) | exact .same _) .nil)) (fun hG => ARead.pickB rfl rfl rfl (by first | exact .strip _ _ id | (refine .strip _ _ (fun h => ?_); simp_all; done) | exact .same _) rfl (by first | exact .strip _ _ id | (refine .strip _ _ (fun h => ?_); simp_all; done) | exact .same _)) rfl rfl ?_ | refine AOps.gread rfl rfl rfl rfl rfl (.cons 77 _ _ _ rfl (by first | exact .strip _ _ id | (refine .strip _ _ (fun h => ?_); simp_all; done) | exact .same _) (.cons 80 _ _ _ rfl (by first | exact .strip _ _ id | (refine .strip _ _ (fun h => ?_); simp_all; done) | exact .same _) .nil)) (fun hG => ARead.pick rfl rfl rfl) rfl rfl ?_
                  first | refine AOps.read (ARead.pickB rfl rfl rfl (by first | exact .strip _ _ id | (refine .strip _ _ (fun h => ?_); simp_all; done) | exact .same _) rfl (by first | exact .strip _ _ id | (refine .strip _ _ (fun h => ?_); simp_all; done) | exact .same _)) rfl rfl rfl ?_ | refine AOps.read (ARead.pick rfl rfl rfl) rfl rfl rfl ?_
                  refine AOps.keep [82] rfl ?_
                  refine AOps.read (ARead.assign rfl rfl) rfl rfl rfl ?_
                  refine AOps.nil (hK70 _ _ _ ?_); clear hK70 K70
                  refine AWp.keep [70] rfl ?_
                  refine AWp.cond rfl (fun hb71 => ?_) (fun hb71 => ?_)
                  · have hc71 := hb71; clear hb71; try simp only [decide_eq_true_eq, decide_eq_false_iff_not, Bool.not_eq_true, Bool.not_eq_false, Int.not_lt, Int.not_le, Bool.not_eq_true', Bool.not_eq_false'] at hc71
                    refine AWp.regK fun K72 hK72 => ?_
                    refine AOps.read (ARead.assign rfl rfl) rfl rfl rfl ?_
                    refine AOps.nil (hK72 _ _ _ ?_); clear hK72 K72
                    refine AWp.keep [2] rfl ?_
                    refine AWp.ret ?_
                    refine ⟨Or.inr rfl, _, (.tmp _ _ _ _ rfl .nil), ?_⟩
                    (try clear hK72 K72); (try clear hK71 K71); (try clear hK70 K70); (try clear hK69 K69); (try clear hK68 K68); (try clear hK67 K67); (try clear hK66 K66); (try clear hK65 K65); (try clear hK64 K64); (try clear hK63 K63); (try clear hK62 K62); (try clear hK61 K61); (try clear hK60 K60); (try clear hK59 K59); (try clear hK58 K58); (try clear hK57 K57); (try clear hK56 K56); (try clear hK55 K55); (try clear hK54 K54); (try clear hK53 K53); (try clear hK52 K52); (try clear hK51 K51); (try clear hK50 K50); (try clear hK49 K49); (try clear hK48 K48); (try clear hK47 K47); (try clear hK46 K46); (try clear hK45 K45); (try clear hK44 K44); (try clear hK43 K43); (try clear hK42 K42); (try clear hK41 K41); (try clear hK40 K40); (try clear hK39 K39); (try clear hK38 K38); (try clear hK37 K37); (try clear hK36 K36); (try clear hK35 K35); (try clear hK34 K34); (try clear hK33 K33); (try clear hK32 K32); (try clear hK31 K31); (try clear hK30 K30); (try clear hK29 K29); (try clear hK28 K28); (try clear hK27 K27); (try clear hK26 K26); (try clear hK25 K25); (try clear hK24 K24); (try clear hK23 K23); (try clear hK22 K22); (try clear hK21 K21); (try clear hK20 K20); (try clear hK19 K19); (try clear hK18 K18); (try clear hK17 K17); (try clear hK16 K16); (try clear hK15 K15); (try clear hK14 K14); (try clear hK13 K13); (try clear hK12 K12); (try clear hK11 K11); (try clear hK10 K10); (try clear hK9 K9); (try clear hK8 K8); (try clear hK7 K7); (try clear hK6 K6); (try clear hK5 K5); (try clear hK4 K4); (try clear hK3 K3); (try clear hK2 K2); (try clear hK1 K1)
                    show packR _ = _
                    grind [packR, checkOpF]
                  · have hc71 := hb71; clear hb71; try simp only [decide_eq_true_eq, decide_eq_false_iff_not, Bool.not_eq_true, Bool.not_eq_false, Int.not_lt, Int.not_le, Bool.not_eq_true', Bool.not_eq_false'] at hc71
                    refine AWp.skip (hK3 _ _ _ ?_); try clear hK3 K3
                    refine AWp.keep [] rfl ?_
                    refine AWp.regK fun K73 hK73 => ?_
                    refine AOps.read (ARead.assign rfl rfl) rfl rfl rfl ?_
                    refine AOps.nil (hK73 _ _ _ ?_); clear hK73 K73
                    refine AWp.keep [2] rfl ?_
                    refine AWp.ret ?_
                    refine ⟨Or.inr rfl, _, (.tmp _ _ _ _ rfl .nil), ?_⟩
                    (try clear hK73 K73); (try clear hK72 K72); (try clear hK71 K71); (try clear hK70 K70); (try clear hK69 K69); (try clear hK68 K68); (try clear hK67 K67); (try clear hK66 K66); (try clear hK65 K65); (try clear hK64 K64); (try clear hK63 K63); (try clear hK62 K62); (try clear hK61 K61); (try clear hK60 K60); (try clear hK59 K59); (try clear hK58 K58); (try clear hK57 K57); (try clear hK56 K56); (try clear hK55 K55); (try clear hK54 K54); (try clear hK53 K53); (try clear hK52 K52); (try clear hK51 K51); (try clear hK50 K50); (try clear hK49 K49); (try clear hK48 K48); (try clear hK47 K47); (try clear hK46 K46); (try clear hK45 K45); (try clear hK44 K44); (try clear hK43 K43); (try clear hK42 K42); (try clear hK41 K41); (try clear hK40 K40); (try clear hK39 K39); (try clear hK38 K38); (try clear hK37 K37); (try clear hK36 K36); (try clear hK35 K35); (try clear hK34 K34); (try clear hK33 K33); (try clear hK32 K32); (try clear hK31 K31); (try clear hK30 K30); (try clear hK29 K29); (try clear hK28 K28); (try clear hK27 K27); (try clear hK26 K26); (try clear hK25 K25); (try clear hK24 K24); (try clear hK23 K23); (try clear hK22 K22); (try clear hK21 K21); (try clear hK20 K20); (try clear hK19 K19); (try clear hK18 K18); (try clear hK17 K17); (try clear hK16 K16); (try clear hK15 K15); (try clear hK14 K14); (try clear hK13 K13); (try clear hK12 K12); (try clear hK11 K11); (try clear hK10 K10); (try clear hK9 K9); (try clear hK8 K8); (try clear hK7 K7); (try clear hK6 K6); (try clear hK5 K5); (try clear hK4 K4); (try clear hK3 K3); (try clear hK2 K2); (try clear hK1 K1)
                    show packR _ = _
                    grind [packR, checkOpF]
        · have hc58 := hb58; clear hb58; try simp only [decide_eq_true_eq, decide_eq_false_iff_not, Bool.not_eq_true, Bool.not_eq_false, Int.not_lt, Int.not_le, Bool.not_eq_true', Bool.not_eq_false'] at hc58
          refine AWp.region ?_
          refine AOps.read (ARead.fieldAddr tabOk rfl rfl rfl rfl (by decide) rfl) rfl rfl rfl ?_
          refine AOps.read (ARead.load tabOk rfl rfl rfl (by repeat (first | exact Has.head _ | apply Has.tail)) (by first | decide | omega) rfl rfl) rfl rfl rfl ?_
          refine AOps.read (ARead.unOp rfl rfl rfl) rfl rfl rfl ?_
          refine AOps.read (ARead.move rfl rfl) rfl rfl rfl ?_
          refine AOps.keep [1, 3, 11, 42] rfl ?_
          refine AOps.gread rfl rfl rfl rfl rfl (.cons 1 _ _ _ rfl (by first | exact .strip _ _ id | (refine .strip _ _ (fun h => ?_); simp_all; done) | exact .same _) .nil) (fun hG => ARead.fieldAddr tabOk rfl rfl rfl rfl (by decide) rfl) rfl rfl ?_
          refine AOps.gread rfl rfl rfl rfl rfl (.cons 43 _ _ _ rfl (by first | exact .strip _ _ id | (refine .strip _ _ (fun h => ?_); simp_all; done) | exact .same _) .nil) (fun hG => ARead.load tabOk rfl rfl rfl (by repeat (first | exact Has.head _ | apply Has.tail)) (by first | decide | omega) rfl rfl) rfl rfl ?_
          refine AOps.gread rfl rfl rfl rfl rfl (.cons 44 _ _ _ rfl (by first | exact .strip _ _ id | (refine .strip _ _ (fun h => ?_); simp_all; done) | exact .same _) .nil) (fun hG => ARead.binOp rfl rfl rfl rfl) rfl rfl ?_
          first | refine AOps.read (ARead.pickB rfl rfl rfl (by first | exact .strip _ _ id | (refine .strip _ _ (fun h => ?_); simp_all; done) | exact .same _) rfl (by first | exact .strip _ _ id | (refine .strip _ _ (fun h => ?_); simp_all; done) | exact .same _)) rfl rfl rfl ?_ | refine AOps.read (ARead.pick rfl rfl rfl) rfl rfl rfl ?_
          refine AOps.keep [1, 3, 11, 46] rfl ?_
          refine AOps.read (ARead.assign rfl rfl) rfl rfl rfl ?_
          refine AOps.nil (hK5 _ _ _ ?_); try clear hK5 K5
          refine AWp.keep [1, 3, 11] rfl ?_
          refine AWp.cond rfl (fun hb74 => ?_) (fun hb74 => ?_)
          · have hc74 := hb74; clear hb74; try simp only [decide_eq_true_eq, decide_eq_false_iff_not, Bool.not_eq_true, Bool.not_eq_false, Int.not_lt, Int.not_le, Bool.not_eq_true', Bool.not_eq_false'] at hc74
            refine AWp.regK fun K75 hK75 => ?_
            refine AOps.read (ARead.assign rfl rfl) rfl rfl rfl ?_
            refine AOps.nil (hK75 _ _ _ ?_); clear hK75 K75
            refine AWp.keep [2] rfl ?_
            refine AWp.ret ?_
            refine ⟨Or.inr rfl, _, (.tmp _ _ _ _ rfl .nil), ?_⟩
            (try clear hK75 K75); (try clear hK74 K74); (try clear hK73 K73); (try clear hK72 K72); (try clear hK71 K71); (try clear hK70 K70); (try clear hK69 K69); (try clear hK68 K68); (try clear hK67 K67); (try clear hK66 K66); (try clear hK65 K65); (try clear hK64 K64); (try clear hK63 K63); (try clear hK62 K62); (try clear hK61 K61); (try clear hK60 K60); (try clear hK59 K59); (try clear hK58 K58); (try clear hK57 K57); (try clear hK56 K56); (try clear hK55 K55); (try clear hK54 K54); (try clear hK53 K53); (try clear hK52 K52); (try clear hK51 K51); (try clear hK50 K50); (try clear hK49 K49); (try clear hK48 K48); (try clear hK47 K47); (try clear hK46 K46); (try clear hK45 K45); (try clear hK44 K44); (try clear hK43 K43); (try clear hK42 K42); (try clear hK41 K41); (try clear hK40 K40); (try clear hK39 K39); (try clear hK38 K38); (try clear hK37 K37); (try clear hK36 K36); (try clear hK35 K35); (try clear hK34 K34); (try clear hK33 K33); (try clear hK32 K32); (try clear hK31 K31); (try clear hK30 K30); (try clear hK29 K29); (try clear hK28 K28); (try clear hK27 K27); (try clear hK26 K26); (try clear hK25 K25); (try clear hK24 K24); (try clear hK23 K23); (try clear hK22 K22); (try clear hK21 K21); (try clear hK20 K20); (try clear hK19 K19); (try clear hK18 K18); (try clear hK17 K17); (try clear hK16 K16); (try clear hK15 K15); (try clear hK14 K14); (try clear hK13 K13); (try clear hK12 K12); (try clear hK11 K11); (try clear hK10 K10); (try clear hK9 K9); (try clear hK8 K8); (try clear hK7 K7); (try clear hK6 K6); (try clear hK5 K5); (try clear hK4 K4); (try clear hK3 K3); (try clear hK2 K2); (try clear hK1 K1)
            show packR _ = _
            grind [packR, checkOpF]
          · have hc74 := hb74; clear hb74; try simp only [decide_eq_true_eq, decide_eq_false_iff_not, Bool.not_eq_true, Bool.not_eq_false, Int.not_lt, Int.not_le, Bool.not_eq_true', Bool.not_eq_false'] at hc74
            refine AWp.regK fun K76 hK76 => ?_
            refine AOps.read (ARead.fieldAddr tabOk rfl rfl rfl rfl (by decide) rfl) rfl rfl rfl ?_
            refine AOps.read (ARead.load tabOk rfl rfl rfl (by repeat (first | exact Has.head _ | apply Has.tail)) (by first | decide | omega) rfl rfl) rfl rfl rfl ?_
            refine AOps.read (ARead.move rfl rfl) rfl rfl rfl ?_
            refine AOps.gread rfl rfl rfl rfl rfl (.cons 1 _ _ _ rfl (by first | exact .strip _ _ id | (refine .strip _ _ (fun h => ?_); simp_all; done) | exact .same _) .nil) (fun hG => ARead.fieldAddr tabOk rfl rfl rfl rfl (by decide) rfl) rfl rfl ?_
            refine AOps.keep [1, 3, 50, 51] rfl ?_
            refine AOps.gread rfl rfl rfl rfl rfl (.cons 51 _ _ _ rfl (by first | exact .strip _ _ id | (refine .strip _ _ (fun h => ?_); simp_all; done) | exact .same _) .nil) (fun hG => ARead.load tabOk rfl rfl rfl (by repeat (first | exact Has.head _ | apply Has.tail)) (by first | decide | omega) rfl rfl) rfl rfl ?_
            refine AOps.gpcall rfl rfl rfl rfl rfl (.cons 52 _ _ _ rfl (by first | exact .strip _ _ id | (refine .strip _ _ (fun h => ?_); simp_all; done) | exact .same _) .nil) rfl (by first | exact .inr ⟨rfl, rfl, rfl⟩ | exact .inl rfl) rfl (fun hG => checkKey_ok _) rfl rfl (fun N hN => ?_)
            refine AOps.gread rfl rfl rfl rfl rfl (.cons 53 _ _ _ rfl (by first | exact .strip _ _ id | (refine .strip _ _ (fun h => ?_); simp_all; done) | exact .same _) .nil) (fun hG => ARead.binOp rfl rfl rfl rfl) rfl rfl ?_
            first | refine AOps.read (ARead.pickB rfl rfl rfl (by first | exact .strip _ _ id | (refine .strip _ _ (fun h => ?_); simp_all; done) | exact .same _) rfl (by first | exact .strip _ _ id | (refine .strip _ _ (fun h => ?_); simp_all; done) | exact .same _)) rfl rfl rfl ?_ | refine AOps.read (ARead.pick rfl rfl rfl) rfl rfl rfl ?_
            refine AOps.keep [1, 3, 55] rfl ?_
            refine AOps.read (ARead.assign rfl rfl) rfl rfl rfl ?_
            refine AOps.nil (hK76 _ _ _ ?_); clear hK76 K76
            refine AWp.keep [1, 3, 47] rfl ?_
            refine AWp.cond rfl (fun hb77 => ?_) (fun hb77 => ?_)
            · have hc77 := hb77; clear hb77; try simp only [decide_eq_true_eq, decide_eq_false_iff_not, Bool.not_eq_true, Bool.not_eq_false, Int.not_lt, Int.not_le, Bool.not_eq_true', Bool.not_eq_false'] at hc77
              refine AWp.regK fun K78 hK78 => ?_
              refine AOps.read (ARead.assign rfl rfl) rfl rfl rfl ?_
              refine AOps.nil (hK78 _ _ _ ?_); clear hK78 K78
              refine AWp.keep [2] rfl ?_
              refine AWp.ret ?_
              refine ⟨Or.inr rfl, _, (.tmp _ _ _ _ rfl .nil), ?_⟩
              (try clear hK78 K78); (try clear hK77 K77); (try clear hK76 K76); (try clear hK75 K75); (try clear hK74 K74); (try clear hK73 K73); (try clear hK72 K72); (try clear hK71 K71); (try clear hK70 K70); (try clear hK69 K69); (try clear hK68 K68); (try clear hK67 K67); (try clear hK66 K66); (try clear hK65 K65); (try clear hK64 K64); (try clear hK63 K63); (try clear hK62 K62); (try clear hK61 K61); (try clear hK60 K60); (try clear hK59 K59); (try clear hK58 K58); (try clear hK57 K57); (try clear hK56 K56); (try clear hK55 K55); (try clear hK54 K54); (try clear hK53 K53); (try clear hK52 K52); (try clear hK51 K51); (try clear hK50 K50); (try clear hK49 K49); (try clear hK48 K48); (try clear hK47 K47); (try clear hK46 K46); (try clear hK45 K45); (try clear hK44 K44); (try clear hK43 K43); (try clear hK42 K42); (try clear hK41 K41); (try clear hK40 K40); (try clear hK39 K39); (try clear hK38 K38); (try clear hK37 K37); (try clear hK36 K36); (try clear hK35 K35); (try clear hK34 K34); (try clear hK33 K33); (try clear hK32 K32); (try clear hK31 K31); (try clear hK30 K30); (try clear hK29 K29); (try clear hK28 K28); (try clear hK27 K27); (try clear hK26 K26); (try clear hK25 K25); (try clear hK24 K24); (try clear hK23 K23); (try clear hK22 K22); (try clear hK21 K21); (try clear hK20 K20); (try clear hK19 K19); (try clear hK18 K18); (try clear hK17 K17); (try clear hK16 K16); (try clear hK15 K15); (try clear hK14 K14); (try clear hK13 K13); (try clear hK12 K12); (try clear hK11 K11); (try clear hK10 K10); (try clear hK9 K9); (try clear hK8 K8); (try clear hK7 K7); (try clear hK6 K6); (try clear hK5 K5); (try clear hK4 K4); (try clear hK3 K3); (try clear hK2 K2); (try clear hK1 K1)
              show packR _ = _
              grind [packR, checkOpF]
            · have hc77 := hb77; clear hb77; try simp only [decide_eq_true_eq, decide_eq_false_iff_not, Bool.not_eq_true, Bool.not_eq_false, Int.not_lt, Int.not_le, Bool.not_eq_true', Bool.not_eq_false'] at hc77
              refine AWp.regK fun K79 hK79 => ?_
              refine AOps.read (ARead.fieldAddr tabOk rfl rfl rfl rfl (by decide) rfl) rfl rfl rfl ?_
              refine AOps.read (ARead.load tabOk rfl rfl rfl (by repeat (first | exact Has.head _ | apply Has.tail)) (by first | decide | omega) rfl rfl) rfl rfl rfl ?_
              refine AOps.read (ARead.lenStr tabOk rfl rfl rfl rfl) rfl rfl rfl ?_
              refine AOps.read (ARead.binOp rfl rfl rfl rfl) rfl rfl rfl ?_
              refine AOps.keep [1, 3, 60] rfl ?_
              refine AOps.read (ARead.assign rfl rfl) rfl rfl rfl ?_
              refine AOps.nil (hK79 _ _ _ ?_); clear hK79 K79
              refine AWp.keep [1, 3, 56] rfl ?_
              refine AWp.cond rfl (fun hb80 => ?_) (fun hb80 => ?_)
              · have hc80 := hb80; clear hb80; try simp only [decide_eq_true_eq, decide_eq_false_iff_not, Bool.not_eq_true, Bool.not_eq_false, Int.not_lt, Int.not_le, Bool.not_eq_true', Bool.not_eq_false'] at hc80
                refine AWp.regK fun K81 hK81 => ?_
                refine AOps.read (ARead.assign rfl rfl) rfl rfl rfl ?_
                refine AOps.nil (hK81 _ _ _ ?_); clear hK81 K81
                refine AWp.keep [2] rfl ?_
                refine AWp.ret ?_
                refine ⟨Or.inr rfl, _, (.tmp _ _ _ _ rfl .nil), ?_⟩
                (try clear hK81 K81); (try clear hK80 K80); (try clear hK79 K79); (try clear hK78 K78); (try clear hK77 K77); (try clear hK76 K76); (try clear hK75 K75); (try clear hK74 K74); (try clear hK73 K73); (try clear hK72 K72); (try clear hK71 K71); (try clear hK70 K70); (try clear hK69 K69); (try clear hK68 K68); (try clear hK67 K67); (try clear hK66 K66); (try clear hK65 K65); (try clear hK64 K64); (try clear hK63 K63); (try clear hK62 K62); (try clear hK61 K61); (try clear hK60 K60); (try clear hK59 K59); (try clear hK58 K58); (try clear hK57 K57); (try clear hK56 K56); (try clear hK55 K55); (try clear hK54 K54); (try clear hK53 K53); (try clear hK52 K52); (try clear hK51 K51); (try clear hK50 K50); (try clear hK49 K49); (try clear hK48 K48); (try clear hK47 K47); (try clear hK46 K46); (try clear hK45 K45); (try clear hK44 K44); (try clear hK43 K43); (try clear hK42 K42); (try clear hK41 K41); (try clear hK40 K40); (try clear hK39 K39); (try clear hK38 K38); (try clear hK37 K37); (try clear hK36 K36); (try clear hK35 K35); (try clear hK34 K34); (try clear hK33 K33); (try clear hK32 K32); (try clear hK31 K31); (try clear hK30 K30); (try clear hK29 K29); (try clear hK28 K28); (try clear hK27 K27); (try clear hK26 K26); (try clear hK25 K25); (try clear hK24 K24); (try clear hK23 K23); (try clear hK22 K22); (try clear hK21 K21); (try clear hK20 K20); (try clear hK19 K19); (try clear hK18 K18); (try clear hK17 K17); (try clear hK16 K16); (try clear hK15 K15); (try clear hK14 K14); (try clear hK13 K13); (try clear hK12 K12); (try clear hK11 K11); (try clear hK10 K10); (try clear hK9 K9); (try clear hK8 K8); (try clear hK7 K7); (try clear hK6 K6); (try clear hK5 K5); (try clear hK4 K4); (try clear hK3 K3); (try clear hK2 K2); (try clear hK1 K1)
                show packR _ = _
                grind [packR, checkOpF]
              · have hc80 := hb80; clear hb80; try simp only [decide_eq_true_eq, decide_eq_false_iff_not, Bool.not_eq_true, Bool.not_eq_false, Int.not_lt, Int.not_le, Bool.not_eq_true', Bool.not_eq_false'] at hc80
                refine AWp.regK fun K82 hK82 => ?_
                refine AOps.read (ARead.fieldAddr tabOk rfl rfl rfl rfl (by decide) rfl) rfl rfl rfl ?_
                refine AOps.read (ARead.load tabOk rfl rfl rfl (by repeat (first | exact Has.head _ | apply Has.tail)) (by first | decide | omega) rfl rfl) rfl rfl rfl ?_
                refine AOps.read (ARead.move rfl rfl) rfl rfl rfl ?_
                refine AOps.gread rfl rfl rfl rfl rfl (.cons 1 _ _ _ rfl (by first | exact .strip _ _ id | (refine .strip _ _ (fun h => ?_); simp_all; done) | exact .same _) .nil) (fun hG => ARead.load tabOk rfl rfl rfl (by repeat (first | exact Has.head _ | apply Has.tail)) (by first | decide | omega) rfl rfl) rfl rfl ?_
                refine AOps.keep [1, 3, 64, 65] rfl ?_
                refine AOps.gpcall rfl rfl rfl rfl rfl (.cons 65 _ _ _ rfl (by first | exact .strip _ _ id | (refine .strip _ _ (fun h => ?_); simp_all; done) | exact .same _) .nil) rfl (by first | exact .inr ⟨rfl, rfl, rfl⟩ | exact .inl rfl) rfl (fun hG => opOf_ok _) rfl rfl (fun N hN => ?_)
                refine AOps.gpcall rfl rfl rfl rfl rfl (.cons 66 _ _ _ rfl (by first | exact .strip _ _ id | (refine .strip _ _ (fun h => ?_); simp_all; done) | exact .same _) .nil) rfl (by first | exact .inr ⟨rfl, rfl, rfl⟩ | exact .inl rfl) rfl (fun hG => spanCheck_ok _ _) rfl rfl (fun N hN => ?_)
                refine AOps.gread rfl rfl rfl rfl rfl (.cons 67 _ _ _ rfl (by first | exact .strip _ _ id | (refine .strip _ _ (fun h => ?_); simp_all; done) | exact .same _) .nil) (fun hG => ARead.binOp rfl rfl rfl rfl) rfl rfl ?_
                first | refine AOps.read (ARead.pickB rfl rfl rfl (by first | exact .strip _ _ id | (refine .strip _ _ (fun h => ?_); simp_all; done) | exact .same _) rfl (by first | exact .strip _ _ id | (refine .strip _ _ (fun h => ?_); simp_all; done) | exact .same _)) rfl rfl rfl ?_ | refine AOps.read (ARead.pick rfl rfl rfl) rfl rfl rfl ?_
                refine AOps.keep [1, 3, 69] rfl ?_
                refine AOps.read (ARead.assign rfl rfl) rfl rfl rfl ?_
                refine AOps.nil (hK82 _ _ _ ?_); clear hK82 K82
                refine AWp.keep [1, 3, 61] rfl ?_
                refine AWp.cond rfl (fun hb83 => ?_) (fun hb83 => ?_)
                · have hc83 := hb83; clear hb83; try simp only [decide_eq_true_eq, decide_eq_false_iff_not, Bool.not_eq_true, Bool.not_eq_false, Int.not_lt, Int.not_le, Bool.not_eq_true', Bool.not_eq_false'] at hc83
                  refine AWp.regK fun K84 hK84 => ?_
                  refine AOps.read (ARead.assign rfl rfl) rfl rfl rfl ?_
                  refine AOps.nil (hK84 _ _ _ ?_); clear hK84 K84
                  refine AWp.keep [2] rfl ?_
                  refine AWp.ret ?_
                  refine ⟨Or.inr rfl, _, (.tmp _ _ _ _ rfl .nil), ?_⟩
                  (try clear hK84 K84); (try clear hK83 K83); (try clear hK82 K82); (try clear hK81 K81); (try clear hK80 K80); (try clear hK79 K79); (try clear hK78 K78); (try clear hK77 K77); (try clear hK76 K76); (try clear hK75 K75); (try clear hK74 K74); (try clear hK73 K73); (try clear hK72 K72); (try clear hK71 K71); (try clear hK70 K70); (try clear hK69 K69); (try clear hK68 K68); (try clear hK67 K67); (try clear hK66 K66); (try clear hK65 K65); (try clear hK64 K64); (try clear hK63 K63); (try clear hK62 K62); (try clear hK61 K61); (try clear hK60 K60); (try clear hK59 K59); (try clear hK58 K58); (try clear hK57 K57); (try clear hK56 K56); (try clear hK55 K55); (try clear hK54 K54); (try clear hK53 K53); (try clear hK52 K52); (try clear hK51 K51); (try clear hK50 K50); (try clear hK49 K49); (try clear hK48 K48); (try clear hK47 K47); (try clear hK46 K46); (try clear hK45 K45); (try clear hK44 K44); (try clear hK43 K43); (try clear hK42 K42); (try clear hK41 K41); (try clear hK40 K40); (try clear hK39 K39); (try clear hK38 K38); (try clear hK37 K37); (try clear hK36 K36); (try clear hK35 K35); (try clear hK34 K34); (try clear hK33 K33); (try clear hK32 K32); (try clear hK31 K31); (try clear hK30 K30); (try clear hK29 K29); (try clear hK28 K28); (try clear hK27 K27); (try clear hK26 K26); (try clear hK25 K25); (try clear hK24 K24); (try clear hK23 K23); (try clear hK22 K22); (try clear hK21 K21); (try clear hK20 K20); (try clear hK19 K19); (try clear hK18 K18); (try clear hK17 K17); (try clear hK16 K16); (try clear hK15 K15); (try clear hK14 K14); (try clear hK13 K13); (try clear hK12 K12); (try clear hK11 K11); (try clear hK10 K10); (try clear hK9 K9); (try clear hK8 K8); (try clear hK7 K7); (try clear hK6 K6); (try clear hK5 K5); (try clear hK4 K4); (try clear hK3 K3); (try clear hK2 K2); (try clear hK1 K1)
                  show packR _ = _
                  grind [packR, checkOpF]
                · have hc83 := hb83; clear hb83; try simp only [decide_eq_true_eq, decide_eq_false_iff_not, Bool.not_eq_true, Bool.not_eq_false, Int.not_lt, Int.not_le, Bool.not_eq_true', Bool.not_eq_false'] at hc83
                  refine AWp.regK fun K85 hK85 => ?_
                  refine AOps.read (ARead.fieldAddr tabOk rfl rfl rfl rfl (by decide) rfl) rfl rfl rfl ?_
                  refine AOps.read (ARead.load tabOk rfl rfl rfl (by repeat (first | exact Has.head _ | apply Has.tail)) (by first | decide | omega) rfl rfl) rfl rfl rfl ?_
                  refine AOps.read (ARead.move rfl rfl) rfl rfl rfl ?_
                  refine AOps.gread rfl rfl rfl rfl rfl (.cons 1 _ _ _ rfl (by first | exact .strip _ _ id | (refine .strip _ _ (fun h => ?_); simp_all; done) | exact .same _) .nil) (fun hG => ARead.fieldAddr tabOk rfl rfl rfl rfl (by decide) rfl) rfl rfl ?_
                  refine AOps.keep [1, 73, 74] rfl ?_
                  refine AOps.gread rfl rfl rfl rfl rfl (.cons 74 _ _ _ rfl (by first | exact .strip _ _ id | (refine .strip _ _ (fun h => ?_); simp_all; done) | exact .same _) .nil) (fun hG => ARead.load tabOk rfl rfl rfl (by repeat (first | exact Has.head _ | apply Has.tail)) (by first | decide | omega) rfl rfl) rfl rfl ?_
                  refine AOps.gread rfl rfl rfl rfl rfl (.cons 75 _ _ _ rfl (by first | exact .strip _ _ id | (refine .strip _ _ (fun h => ?_); simp_all; done) | exact .same _) .nil) (fun hG => ARead.binOp rfl rfl rfl rfl) rfl rfl ?_
                  refine AOps.gread rfl rfl rfl rfl rfl (.cons 76 _ _ _ rfl (by first | exact .strip _ _ id | (refine .strip _ _ (fun h => ?_); simp_all; done) | exact .same _) .nil) (fun hG => ARead.move rfl rfl) rfl rfl ?_
                  refine AOps.gread rfl rfl rfl rfl rfl (.cons 1 _ _ _ rfl (by first | exact .strip _ _ id | (refine .strip _ _ (fun h => ?_); simp_all; done) | exact .same _) .nil) (fun hG => ARead.fieldAddr tabOk rfl rfl rfl rfl (by decide) rfl) rfl rfl ?_
                  refine AOps.keep [73, 77, 78] rfl ?_
                  refine AOps.gread rfl rfl rfl rfl rfl (.cons 78 _ _ _ rfl (by first | exact .strip _ _ id | (refine .strip _ _ (fun h => ?_); simp_all; done) | exact .same _) .nil) (fun hG => ARead.load tabOk rfl rfl rfl (by repeat (first | exact Has.head _ | apply Has.tail)) (by first | decide | omega) rfl rfl) rfl rfl ?_
                  refine AOps.gread rfl rfl rfl rfl rfl (.cons 79 _ _ _ rfl (by first | exact .strip _ _ id | (refine .strip _ _ (fun h => ?_); simp_all; done) | exact .same _) .nil) (fun hG => ARead.binOp rfl rfl rfl rfl) rfl rfl ?_
                  first | refine AOps.gread rfl rfl rfl rfl rfl (.cons 77 _ _ _ rfl (by first | exact .strip _ _ id | (refine .strip _ _ (fun h => ?_); simp_all; done) | exact .same _) (.cons 80 _ _ _ rfl (by first | exact .strip _ _ id | (refine .strip _ _ (fun h => ?_); simp_all; done) | exact .same _) .nil)) (fun hG => ARead.pickB rfl rfl rfl (by first | exact .strip _ _ id | (refine .strip _ _ (fun h => ?_); simp_all; done) | exact .same _) rfl (by first | exact .strip _ _ id | (refine .strip _ _ (fun h => ?_); simp_all; done) | exact .same _)) rfl rfl ?_ | refine AOps.gread rfl rfl rfl rfl rfl (.cons 77 _ _ _ rfl (by first | exact .strip _ _ id | (refine .strip _ _ (fun h => ?_); simp_all; done) | exact .same _) (.cons 80 _ _ _ rfl (by first | exact .strip _ _ id | (refine .strip _ _ (fun h => ?_); simp_all; done) | exact .same _) .nil)) (fun hG => ARead.pick rfl rfl rfl) rfl rfl ?_
                  first | refine AOps.read (ARead.pickB rfl rfl rfl (by first | exact .strip _ _ id | (refine .strip _ _ (fun h => ?_); simp_all; done) | exact .same _) rfl (by first | exact .strip _ _ id | (refine .strip _ _ (fun h => ?_); simp_all; done) | exact .same _)) rfl rfl rfl ?_ | refine AOps.read (ARead.pick rfl rfl rfl) rfl rfl rfl ?_
                  refine AOps.keep [82] rfl ?_
                  refine AOps.read (ARead.assign rfl rfl) rfl rfl rfl ?_
                  refine AOps.nil (hK85 _ _ _ ?_); clear hK85 K85
                  refine AWp.keep [70] rfl ?_
                  refine AWp.cond rfl (fun hb86 => ?_) (fun hb86 => ?_)
                  · have hc86 := hb86; clear hb86; try simp only [decide_eq_true_eq, decide_eq_false_iff_not, Bool.not_eq_true, Bool.not_eq_false, Int.not_lt, Int.not_le, Bool.not_eq_true', Bool.not_eq_false'] at hc86
                    refine AWp.regK fun K87 hK87 => ?_
                    refine AOps.read (ARead.assign rfl rfl) rfl rfl rfl ?_
                    refine AOps.nil (hK87 _ _ _ ?_); clear hK87 K87
                    refine AWp.keep [2] rfl ?_
                    refine AWp.ret ?_
                    refine ⟨Or.inr rfl, _, (.tmp _ _ _ _ rfl .nil), ?_⟩
                    (try clear hK87 K87); (try clear hK86 K86); (try clear hK85 K85); (try clear hK84 K84); (try clear hK83 K83); (try clear hK82 K82); (try clear hK81 K81); (try clear hK80 K80); (try clear hK79 K79); (try clear hK78 K78); (try clear hK77 K77); (try clear hK76 K76); (try clear hK75 K75); (try clear hK74 K74); (try clear hK73 K73); (try clear hK72 K72); (try clear hK71 K71); (try clear hK70 K70); (try clear hK69 K69); (try clear hK68 K68); (try clear hK67 K67); (try clear hK66 K66); (try clear hK65 K65); (try clear hK64 K64); (try clear hK63 K63); (try clear hK62 K62); (try clear hK61 K61); (try clear hK60 K60); (try clear hK59 K59); (try clear hK58 K58); (try clear hK57 K57); (try clear hK56 K56); (try clear hK55 K55); (try clear hK54 K54); (try clear hK53 K53); (try clear hK52 K52); (try clear hK51 K51); (try clear hK50 K50); (try clear hK49 K49); (try clear hK48 K48); (try clear hK47 K47); (try clear hK46 K46); (try clear hK45 K45); (try clear hK44 K44); (try clear hK43 K43); (try clear hK42 K42); (try clear hK41 K41); (try clear hK40 K40); (try clear hK39 K39); (try clear hK38 K38); (try clear hK37 K37); (try clear hK36 K36); (try clear hK35 K35); (try clear hK34 K34); (try clear hK33 K33); (try clear hK32 K32); (try clear hK31 K31); (try clear hK30 K30); (try clear hK29 K29); (try clear hK28 K28); (try clear hK27 K27); (try clear hK26 K26); (try clear hK25 K25); (try clear hK24 K24); (try clear hK23 K23); (try clear hK22 K22); (try clear hK21 K21); (try clear hK20 K20); (try clear hK19 K19); (try clear hK18 K18); (try clear hK17 K17); (try clear hK16 K16); (try clear hK15 K15); (try clear hK14 K14); (try clear hK13 K13); (try clear hK12 K12); (try clear hK11 K11); (try clear hK10 K10); (try clear hK9 K9); (try clear hK8 K8); (try clear hK7 K7); (try clear hK6 K6); (try clear hK5 K5); (try clear hK4 K4); (try clear hK3 K3); (try clear hK2 K2); (try clear hK1 K1)
                    show packR _ = _
                    grind [packR, checkOpF]
                  · have hc86 := hb86; clear hb86; try simp only [decide_eq_true_eq, decide_eq_false_iff_not, Bool.not_eq_true, Bool.not_eq_false, Int.not_lt, Int.not_le, Bool.not_eq_true', Bool.not_eq_false'] at hc86
                    refine AWp.skip (hK3 _ _ _ ?_); try clear hK3 K3
                    refine AWp.keep [] rfl ?_
                    refine AWp.regK fun K88 hK88 => ?_
                    refine AOps.read (ARead.assign rfl rfl) rfl rfl rfl ?_
                    refine AOps.nil (hK88 _ _ _ ?_); clear hK88 K88
                    refine AWp.keep [2] rfl ?_
                    refine AWp.ret ?_
                    refine ⟨Or.inr rfl, _, (.tmp _ _ _ _ rfl .nil), ?_⟩
                    (try clear hK88 K88); (try clear hK87 K87); (try clear hK86 K86); (try clear hK85 K85); (try clear hK84 K84); (try clear hK83 K83); (try clear hK82 K82); (try clear hK81 K81); (try clear hK80 K80); (try clear hK79 K79); (try clear hK78 K78); (try clear hK77 K77); (try clear hK76 K76); (try clear hK75 K75); (try clear hK74 K74); (try clear hK73 K73); (try clear hK72 K72); (try clear hK71 K71); (try clear hK70 K70); (try clear hK69 K69); (try clear hK68 K68); (try clear hK67 K67); (try clear hK66 K66); (try clear hK65 K65); (try clear hK64 K64); (try clear hK63 K63); (try clear hK62 K62); (try clear hK61 K61); (try clear hK60 K60); (try clear hK59 K59); (try clear hK58 K58); (try clear hK57 K57); (try clear hK56 K56); (try clear hK55 K55); (try clear hK54 K54); (try clear hK53 K53); (try clear hK52 K52); (try clear hK51 K51); (try clear hK50 K50); (try clear hK49 K49); (try clear hK48 K48); (try clear hK47 K47); (try clear hK46 K46); (try clear hK45 K45); (try clear hK44 K44); (try clear hK43 K43); (try clear hK42 K42); (try clear hK41 K41); (try clear hK40 K40); (try clear hK39 K39); (try clear hK38 K38); (try clear hK37 K37); (try clear hK36 K36); (try clear hK35 K35); (try clear hK34 K34); (try clear hK33 K33); (try clear hK32 K32); (try clear hK31 K31); (try clear hK30 K30); (try clear hK29 K29); (try clear hK28 K28); (try clear hK27 K27); (try clear hK26 K26); (try clear hK25 K25); (try clear hK24 K24); (try clear hK23 K23); (try clear hK22 K22); (try clear hK21 K21); (try clear hK20 K20); (try clear hK19 K19); (try clear hK18 K18); (try clear hK17 K17); (try clear hK16 K16); (try clear hK15 K15); (try clear hK14 K14); (try clear hK13 K13); (try clear hK12 K12); (try clear hK11 K11); (try clear hK10 K10); (try clear hK9 K9); (try clear hK8 K8); (try clear hK7 K7); (try clear hK6 K6); (try clear hK5 K5); (try clear hK4 K4); (try clear hK3 K3); (try clear hK2 K2); (try clear hK1 K1)
                    show packR _ = _
                    grind [packR, checkOpF]

end Go.Sl
