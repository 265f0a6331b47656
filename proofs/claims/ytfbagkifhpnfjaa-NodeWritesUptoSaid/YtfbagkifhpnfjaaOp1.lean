/- Walks of package op, one. No condition beside those in the statements. -/
import Derived.Test.YtfbagkifhpnfjaaSpan
namespace Go.Sl
open Go Go.Proofs 
set_option linter.unusedVariables false
set_option linter.unusedSimpArgs false
set_option maxRecDepth 20000
set_option maxHeartbeats 400000
structure Pr where
  key : Str
  val : Str
def pr0 : Pr := ⟨[], []⟩
abbrev prF (p : Pr) : List FV := [.str p.key, .str p.val]
abbrev prs (nil : Bool) (m : List Pr) : AV := .fv (rowsF 2 nil prF pr0 m)
def checkMapF : Str → List Pr → Int
  | _, [] => 0
  | last, p :: m => if checkKeyF p.key ≠ 0 then 20 else if 16 < p.val.length then 2 else if sle p.key last then 1 else checkMapF p.key m
theorem drop_getD {α : Type} {l : List α} {i : Nat} (d : α) (h : i < l.length) : l.drop i = l.getD i d :: l.drop (i + 1) := by
  rw [List.getD_eq_getElem?_getD, List.getElem?_eq_getElem h]; exact List.drop_eq_getElem_cons h

theorem checkMap_ok (nil : Bool) (m : List Pr) (hm : m.length ≤ 1073741824) : APure Try.prog 19 [prs nil m] (vi (checkMapF [] m)) := by
  refine APure.intro fun N0 => ?_
  refine ACall.of_body tabOk (tab := tab) (fn := Try.f19) Try.func19 (by kernel_rfl) rfl (by simp [Try.f19]) ?_
  show AWp Try.prog 30 _ N0 [(0, prs nil m)] [] _
  refine AWp.regK fun K1 hK1 => ?_
  refine AOps.read (ARead.assign rfl rfl) rfl rfl rfl ?_
  refine AOps.nil (hK1 _ _ _ ?_); clear hK1 K1
  refine AWp.keep [0] rfl ?_
  refine AWp.regK fun K2 hK2 => ?_
  refine AOps.read (ARead.assign rfl rfl) rfl rfl rfl ?_
  refine AOps.nil (hK2 _ _ _ ?_); clear hK2 K2
  refine AWp.keep [0, 3] rfl ?_
  refine AWp.seqK fun K3 hK3 => ?_
  refine AWp.regK fun K4 hK4 => ?_
  refine AOps.read (ARead.move rfl rfl) rfl rfl rfl ?_
  refine AOps.read (ARead.lenSl tabOk rfl rfl rfl rfl rfl) rfl rfl rfl ?_
  refine AOps.read (ARead.move rfl rfl) rfl rfl rfl ?_
  refine AOps.nil (hK4 _ _ _ ?_); clear hK4 K4
  refine AWp.keep [3, 6, 7, 8] rfl ?_
  refine AWp.block ?_
  refine AWp.loopP (α := Nat × Str) [3, 6, 7, 8] (fun x N => [(3, vs x.2), (6, prs nil m), (7, vi m.length), (8, vi x.1)]) (fun x N => []) (fun x N => x.1 ≤ m.length ∧ checkMapF x.2 (m.drop x.1) = checkMapF [] m) (fun x => m.length - x.1) ((0, [])) rfl (.nil _) (⟨Nat.zero_le _, rfl⟩) (fun x N hN hg K6 hK6 => ?_)
  obtain ⟨hg1, hg2⟩ := hg
  refine AWp.regK fun K7 hK7 => ?_
  refine AOps.read (ARead.binOp rfl rfl rfl rfl) rfl rfl rfl ?_
  refine AOps.nil (hK7 _ _ _ ?_); clear hK7 K7
  refine AWp.keep [3, 6, 7, 8, 9] rfl ?_
  refine AWp.seqK fun K8 hK8 => ?_
  refine AWp.cond rfl (fun hb9 => ?_) (fun hb9 => ?_)
  · have hc9 := hb9; clear hb9; try simp only [decide_eq_true_eq, decide_eq_false_iff_not, Bool.not_eq_true, Bool.not_eq_false, Int.not_lt, Int.not_le, Bool.not_eq_true', Bool.not_eq_false'] at hc9
    have hlt : x.1 < m.length := by omega
    rw [drop_getD pr0 hlt] at hg2
    refine AWp.skip (hK8 _ _ _ ?_); try clear hK8 K8
    refine AWp.keep [3, 6, 7, 8] rfl ?_
    refine AWp.seqK fun K10 hK10 => ?_
    refine AWp.block ?_
    refine AWp.regK fun K12 hK12 => ?_
    refine AOps.read (ARead.indexAddrF tabOk rfl rfl rfl rfl rfl rfl rfl (by omega) (by omega)) rfl rfl rfl ?_
    refine AOps.read (ARead.loadF tabOk rfl rfl rfl rfl) rfl rfl rfl ?_
    refine AOps.op1 (AOp.alloc tabOk rfl rfl rfl) rfl rfl rfl ?_
    first | refine AOps.op10 (AOp.storeC tabOk rfl rfl rfl rfl (by repeat (first | exact Has.head _ | apply Has.tail)) rfl (Nat.le_of_ble_eq_true rfl) rfl) rfl rfl ?_ | refine AOps.op10 (AOp.store tabOk rfl rfl rfl rfl (by repeat (first | exact Has.head _ | apply Has.tail)) (by first | decide | omega) rfl (by decide) rfl) rfl rfl ?_
    refine AOps.nil (hK12 _ _ _ ?_); clear hK12 K12
    refine AWp.keep [3, 5, 6, 7, 8] rfl ?_
    refine AWp.seqK fun K13 hK13 => ?_
    refine AWp.block ?_
    refine AWp.regK fun K15 hK15 => ?_
    refine AOps.read (ARead.fieldAddr tabOk rfl rfl rfl rfl (by decide) rfl) rfl rfl rfl ?_
    refine AOps.read (ARead.load tabOk rfl rfl rfl (by repeat (first | exact Has.head _ | apply Has.tail)) (by first | decide | omega) rfl rfl) rfl rfl rfl ?_
    refine AOps.pcall (checkKey_ok _) rfl (by first | exact .inr ⟨rfl, rfl, rfl⟩ | exact .inl rfl) rfl rfl rfl rfl (fun N hN => ?_)
    refine AOps.read (ARead.binOp rfl rfl rfl rfl) rfl rfl rfl ?_
    refine AOps.keep [3, 5, 6, 7, 8, 16] rfl ?_
    refine AOps.read (ARead.assign rfl rfl) rfl rfl rfl ?_
    refine AOps.nil (hK15 _ _ _ ?_); clear hK15 K15
    refine AWp.keep [3, 5, 6, 7, 8, 12] rfl ?_
    refine AWp.cond rfl (fun hb16 => ?_) (fun hb16 => ?_)
    · have hc16 := hb16; clear hb16; try simp only [decide_eq_true_eq, decide_eq_false_iff_not, Bool.not_eq_true, Bool.not_eq_false, Int.not_lt, Int.not_le, Bool.not_eq_true', Bool.not_eq_false'] at hc16
      refine AWp.regK fun K17 hK17 => ?_
      refine AOps.read (ARead.assign rfl rfl) rfl rfl rfl ?_
      refine AOps.nil (hK17 _ _ _ ?_); clear hK17 K17
      refine AWp.keep [2] rfl ?_
      refine AWp.ret ?_
      refine ⟨Or.inr rfl, _, (.tmp _ _ _ _ rfl .nil), ?_⟩
      (try clear hK17 K17); (try clear hK16 K16); (try clear hK15 K15); (try clear hK14 K14); (try clear hK13 K13); (try clear hK12 K12); (try clear hK11 K11); (try clear hK10 K10); (try clear hK9 K9); (try clear hK8 K8); (try clear hK7 K7); (try clear hK6 K6); (try clear hK5 K5); (try clear hK4 K4); (try clear hK3 K3); (try clear hK2 K2); (try clear hK1 K1)
      show packR _ = _
      simp only [packR, Int.toNat_natCast] at *; grind [checkMapF]
    · have hc16 := hb16; clear hb16; try simp only [decide_eq_true_eq, decide_eq_false_iff_not, Bool.not_eq_true, Bool.not_eq_false, Int.not_lt, Int.not_le, Bool.not_eq_true', Bool.not_eq_false'] at hc16
      refine AWp.regK fun K18 hK18 => ?_
      refine AOps.read (ARead.fieldAddr tabOk rfl rfl rfl rfl (by decide) rfl) rfl rfl rfl ?_
      refine AOps.read (ARead.load tabOk rfl rfl rfl (by repeat (first | exact Has.head _ | apply Has.tail)) (by first | decide | omega) rfl rfl) rfl rfl rfl ?_
      refine AOps.read (ARead.lenStr tabOk rfl rfl rfl rfl) rfl rfl rfl ?_
      refine AOps.read (ARead.binOp rfl rfl rfl rfl) rfl rfl rfl ?_
      refine AOps.keep [3, 5, 6, 7, 8, 21] rfl ?_
      refine AOps.read (ARead.assign rfl rfl) rfl rfl rfl ?_
      refine AOps.nil (hK18 _ _ _ ?_); clear hK18 K18
      refine AWp.keep [3, 5, 6, 7, 8, 17] rfl ?_
      refine AWp.cond rfl (fun hb19 => ?_) (fun hb19 => ?_)
      · have hc19 := hb19; clear hb19; try simp only [decide_eq_true_eq, decide_eq_false_iff_not, Bool.not_eq_true, Bool.not_eq_false, Int.not_lt, Int.not_le, Bool.not_eq_true', Bool.not_eq_false'] at hc19
        refine AWp.regK fun K20 hK20 => ?_
        refine AOps.read (ARead.assign rfl rfl) rfl rfl rfl ?_
        refine AOps.nil (hK20 _ _ _ ?_); clear hK20 K20
        refine AWp.keep [2] rfl ?_
        refine AWp.ret ?_
        refine ⟨Or.inr rfl, _, (.tmp _ _ _ _ rfl .nil), ?_⟩
        (try clear hK20 K20); (try clear hK19 K19); (try clear hK18 K18); (try clear hK17 K17); (try clear hK16 K16); (try clear hK15 K15); (try clear hK14 K14); (try clear hK13 K13); (try clear hK12 K12); (try clear hK11 K11); (try clear hK10 K10); (try clear hK9 K9); (try clear hK8 K8); (try clear hK7 K7); (try clear hK6 K6); (try clear hK5 K5); (try clear hK4 K4); (try clear hK3 K3); (try clear hK2 K2); (try clear hK1 K1)
        show packR _ = _
        simp only [packR, Int.toNat_natCast] at *; grind [checkMapF]
      · have hc19 := hb19; clear hb19; try simp only [decide_eq_true_eq, decide_eq_false_iff_not, Bool.not_eq_true, Bool.not_eq_false, Int.not_lt, Int.not_le, Bool.not_eq_true', Bool.not_eq_false'] at hc19
        refine AWp.regK fun K21 hK21 => ?_
        refine AOps.read (ARead.fieldAddr tabOk rfl rfl rfl rfl (by decide) rfl) rfl rfl rfl ?_
        refine AOps.read (ARead.load tabOk rfl rfl rfl (by repeat (first | exact Has.head _ | apply Has.tail)) (by first | decide | omega) rfl rfl) rfl rfl rfl ?_
        refine AOps.read (ARead.move rfl rfl) rfl rfl rfl ?_
        refine AOps.read (ARead.binOp rfl rfl rfl rfl) rfl rfl rfl ?_
        refine AOps.keep [5, 6, 7, 8, 26] rfl ?_
        refine AOps.read (ARead.assign rfl rfl) rfl rfl rfl ?_
        refine AOps.nil (hK21 _ _ _ ?_); clear hK21 K21
        refine AWp.keep [5, 6, 7, 8, 22] rfl ?_
        refine AWp.cond rfl (fun hb22 => ?_) (fun hb22 => ?_)
        · have hc22 := hb22; clear hb22; try simp only [decide_eq_true_eq, decide_eq_false_iff_not, Bool.not_eq_true, Bool.not_eq_false, Int.not_lt, Int.not_le, Bool.not_eq_true', Bool.not_eq_false'] at hc22
          refine AWp.regK fun K23 hK23 => ?_
          refine AOps.read (ARead.assign rfl rfl) rfl rfl rfl ?_
          refine AOps.nil (hK23 _ _ _ ?_); clear hK23 K23
          refine AWp.keep [2] rfl ?_
          refine AWp.ret ?_
          refine ⟨Or.inr rfl, _, (.tmp _ _ _ _ rfl .nil), ?_⟩
          (try clear hK23 K23); (try clear hK22 K22); (try clear hK21 K21); (try clear hK20 K20); (try clear hK19 K19); (try clear hK18 K18); (try clear hK17 K17); (try clear hK16 K16); (try clear hK15 K15); (try clear hK14 K14); (try clear hK13 K13); (try clear hK12 K12); (try clear hK11 K11); (try clear hK10 K10); (try clear hK9 K9); (try clear hK8 K8); (try clear hK7 K7); (try clear hK6 K6); (try clear hK5 K5); (try clear hK4 K4); (try clear hK3 K3); (try clear hK2 K2); (try clear hK1 K1)
          show packR _ = _
          simp only [packR, Int.toNat_natCast] at *; grind [checkMapF]
        · have hc22 := hb22; clear hb22; try simp only [decide_eq_true_eq, decide_eq_false_iff_not, Bool.not_eq_true, Bool.not_eq_false, Int.not_lt, Int.not_le, Bool.not_eq_true', Bool.not_eq_false'] at hc22
          refine AWp.skip (hK13 _ _ _ ?_); try clear hK13 K13
          refine AWp.keep [5, 6, 7, 8] rfl ?_
          refine AWp.region ?_
          refine AOps.read (ARead.fieldAddr tabOk rfl rfl rfl rfl (by decide) rfl) rfl rfl rfl ?_
          refine AOps.read (ARead.load tabOk rfl rfl rfl (by repeat (first | exact Has.head _ | apply Has.tail)) (by first | decide | omega) rfl rfl) rfl rfl rfl ?_
          refine AOps.read (ARead.assign rfl rfl) rfl rfl rfl ?_
          refine AOps.nil (hK10 _ _ _ ?_); try clear hK10 K10
          refine AWp.keep [3, 6, 7, 8] rfl ?_
          refine AWp.region ?_
          first | refine AOps.read (ARead.binW rfl rfl rfl rfl (i64_ok (by omega) (by omega))) rfl rfl rfl ?_ | refine AOps.read (ARead.binOp rfl rfl rfl rfl) rfl rfl rfl ?_
          refine AOps.read (ARead.move rfl rfl) rfl rfl rfl ?_
          (try clear hK23 K23); (try clear hK22 K22); (try clear hK21 K21); (try clear hK20 K20); (try clear hK19 K19); (try clear hK18 K18); (try clear hK17 K17); (try clear hK16 K16); (try clear hK15 K15); (try clear hK14 K14); (try clear hK13 K13); (try clear hK12 K12); (try clear hK11 K11); (try clear hK10 K10); (try clear hK9 K9); (try clear hK8 K8); (try clear hK7 K7); (try clear hK5 K5); (try clear hK4 K4); (try clear hK3 K3); (try clear hK2 K2); (try clear hK1 K1)
          refine AOps.nil (hK6 _ _ _ ((x.1 + 1, (m.getD x.1 pr0).key)) _ (by rfl) (.nil _) (by simp only [Int.toNat_natCast] at *; grind [checkMapF]) (by grind))
  · have hc9 := hb9; clear hb9; try simp only [decide_eq_true_eq, decide_eq_false_iff_not, Bool.not_eq_true, Bool.not_eq_false, Int.not_lt, Int.not_le, Bool.not_eq_true', Bool.not_eq_false'] at hc9
    rw [List.drop_of_length_le (by omega)] at hg2
    refine AWp.exit (Or.inl ⟨rfl, (hK3 _ _ _ ?_)⟩); try clear hK3 K3
    refine AWp.keep [] rfl ?_
    refine AWp.regK fun K24 hK24 => ?_
    refine AOps.read (ARead.assign rfl rfl) rfl rfl rfl ?_
    refine AOps.nil (hK24 _ _ _ ?_); clear hK24 K24
    refine AWp.keep [2] rfl ?_
    refine AWp.ret ?_
    refine ⟨Or.inr rfl, _, (.tmp _ _ _ _ rfl .nil), ?_⟩
    (try clear hK24 K24); (try clear hK23 K23); (try clear hK22 K22); (try clear hK21 K21); (try clear hK20 K20); (try clear hK19 K19); (try clear hK18 K18); (try clear hK17 K17); (try clear hK16 K16); (try clear hK15 K15); (try clear hK14 K14); (try clear hK13 K13); (try clear hK12 K12); (try clear hK11 K11); (try clear hK10 K10); (try clear hK9 K9); (try clear hK8 K8); (try clear hK7 K7); (try clear hK6 K6); (try clear hK5 K5); (try clear hK4 K4); (try clear hK3 K3); (try clear hK2 K2); (try clear hK1 K1)
    show packR _ = _
    simp only [packR, Int.toNat_natCast] at *; grind [checkMapF]

end Go.Sl
