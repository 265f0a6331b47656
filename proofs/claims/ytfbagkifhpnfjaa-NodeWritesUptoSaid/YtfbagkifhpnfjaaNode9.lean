/- The walk of node.whole. No condition beside those in the statements. -/
import Derived.Test.YtfbagkifhpnfjaaNode8
import Derived.Test.YtfbagkifhpnfjaaBrg
namespace Go.Sl
open Go Go.Proofs 
set_option linter.unusedVariables false
set_option linter.unusedSimpArgs false
set_option maxRecDepth 20000
set_option maxHeartbeats 400000
def pairB (p : Pr) : List UInt8 := textsF [p.key, p.val]
def kidB (k : Int) : List UInt8 := numF k.toNat
def opTexts (o : O6) : List Str := if o.kind = 2 then [o.key, o.val] else if o.kind = 3 then [o.key] else if o.kind = 5 then [o.lo, o.hi] else []
def entB (x : En) : List UInt8 := numF x.seq.toNat ++ [UInt8.ofNat x.op.kind.toNat] ++ textsF (opTexts x.op)
def bufB (b : Bf) : List UInt8 := numF b.l.length ++ b.l.flatMap entB
/-- A node's bytes. -/
def wholeF (n : Nd) : List UInt8 :=
  if n.leaf = true then [1] ++ numF n.pairs.length ++ n.pairs.flatMap pairB
  else [2] ++ numF n.kids.length ++ n.kids.flatMap kidB ++ textsF n.pivots ++ n.bufs.flatMap bufB
structure EnWh (x : En) : Prop where
  kind : x.op.kind = 2 ∨ x.op.kind = 3 ∨ x.op.kind = 5
  seq : 0 ≤ x.seq ∧ x.seq < 18446744073709551616
  key : x.op.key.length ≤ 1048576
  val : x.op.val.length ≤ 1048576
  lo : x.op.lo.length ≤ 1048576
  hi : x.op.hi.length ≤ 1048576
structure WholeOk (n : Nd) : Prop where
  pairs : n.pairs.length ≤ 1073741824 ∧ ∀ p ∈ n.pairs, p.key.length ≤ 1048576 ∧ p.val.length ≤ 1048576
  kids : n.kids.length ≤ 1073741824 ∧ ∀ k ∈ n.kids, 0 ≤ k ∧ k ≤ 2147483647
  pivots : n.pivots.length ≤ 1073741824 ∧ ∀ p ∈ n.pivots, p.length ≤ 1048576
  bufs : n.bufs.length ≤ 1073741824 ∧ ∀ b ∈ n.bufs, b.l.length ≤ 1073741824 ∧ ∀ x ∈ b.l, EnWh x
  len : (wholeF n).length ≤ 1073741824
theorem nodeNum_int (bs : List UInt8) (k : Int) (h0 : 0 ≤ k) (h1 : k < 18446744073709551616) (hb : bs.length + (numF k.toNat).length ≤ 1073741824) (m N : Nat) :
    ACall Try.prog 130 [.row m false (bytesA bs).length, .fv (.int .u64 k)] N [(m, .row 1 false (bytesA bs))] fun _ r H' => GivesB (bs ++ numF k.toNat) r H' := by
  have := nodeNum_gives bs k.toNat (by omega) hb m N
  rwa [Int.toNat_of_nonneg h0] at this
theorem fields_ok (x : En) (hk : x.op.kind = 2 ∨ x.op.kind = 3 ∨ x.op.kind = 5) (a N : Nat) : ACall Try.prog 132 [.ptr a 7 0 1] N [(a, vr (enA x))] fun _ r H' => ∃ m, r = .sl m 1 0 (opTexts x.op).length (some (opTexts x.op).length) ∧ H' = [(m, vr ((fieldsO x.op.kind).map fun j => AV.ptr a 7 0 j)), (a, vr (enA x))] := by
  rcases hk with hk | hk | hk
  · rw [show opTexts x.op = [x.op.key, x.op.val] by simp [opTexts, hk], show fieldsO x.op.kind = [2, 3] by simp [fieldsO, hk]]; exact fields2_ok x hk a N
  · rw [show opTexts x.op = [x.op.key] by simp [opTexts, hk], show fieldsO x.op.kind = [2] by simp [fieldsO, hk]]; exact fields3_ok x hk a N
  · rw [show opTexts x.op = [x.op.lo, x.op.hi] by simp [opTexts, hk], show fieldsO x.op.kind = [4, 5] by simp [fieldsO, hk]]; exact fields5_ok x hk a N
theorem opTexts_len (x : En) (hx : EnWh x) : ∀ s ∈ opTexts x.op, s.length ≤ 1048576 := by
  have h1 := hx.key; have h2 := hx.val; have h3 := hx.lo; have h4 := hx.hi
  intro s hs
  unfold opTexts at hs
  split at hs
  · simp at hs; rcases hs with rfl | rfl <;> assumption
  · split at hs
    · simp at hs; subst hs; assumption
    · split at hs
      · simp at hs; rcases hs with rfl | rfl <;> assumption
      · cases hs
theorem opTexts_few (x : En) : (opTexts x.op).length ≤ 2 := by
  unfold opTexts; split
  · simp
  · split
    · simp
    · split <;> simp
theorem field_ptr (x : En) (hk : x.op.kind = 2 ∨ x.op.kind = 3 ∨ x.op.kind = 5) (a q : Nat) (hq : q < (opTexts x.op).length) :
    apart false ((0 + (q : Int).toNat) * 1 + 0) 1 ((fieldsO x.op.kind).map fun j => AV.ptr a 7 0 j) = some (.ptr a 7 0 ((fieldsO x.op.kind).getD q 0)) := by
  rcases hk with hk | hk | hk <;> (simp only [opTexts, fieldsO, hk] at hq ⊢; simp at hq ⊢; rcases q with _ | _ | q <;> first | rfl | omega)
theorem field_cell (x : En) (hk : x.op.kind = 2 ∨ x.op.kind = 3 ∨ x.op.kind = 5) (q : Nat) (hq : q < (opTexts x.op).length) :
    apart false (0 * 7 + (fieldsO x.op.kind).getD q 0) 1 (enA x) = some (vs ((opTexts x.op).getD q [])) := by
  rcases hk with hk | hk | hk <;> (simp only [opTexts, fieldsO, hk] at hq ⊢; simp at hq ⊢; rcases q with _ | _ | q <;> first | rfl | omega)
theorem kindB {x : En} (hx : EnWh x) : IntKind.u8.wrap x.op.kind = ((UInt8.ofNat x.op.kind.toNat).toNat : Int) := by
  rcases hx.kind with h | h | h <;> (rw [h]; rfl)

theorem whole_ok (n : Nd) (ok : WholeOk n) (N0 : Nat) : ACall Try.prog 85 [ndA n] N0 [] (fun _ r H' => ∃ H1 Hx, Take H1 H' Hx ∧ GivesB (wholeF n) r H1) := by
  obtain ⟨⟨okp, hpairs⟩, ⟨okk, hkids⟩, ⟨okv, hpiv⟩, ⟨okb, hbufs⟩, oklen⟩ := ok
  refine ACall.of_body tabOk (tab := tab) (fn := Try.f85) Try.func85 (by kernel_rfl) rfl (by simp [Try.f85]) ?_
  show AWp Try.prog 106 _ N0 [(0, ndA n)] [] _
  refine AWp.regK fun K1 hK1 => ?_
  refine AOps.op1 (AOp.box rfl rfl rfl) rfl rfl rfl ?_
  refine AOps.read (ARead.assign rfl rfl) rfl rfl rfl ?_
  refine AOps.nil (hK1 _ _ _ ?_); clear hK1 K1
  refine AWp.keep [1] rfl ?_
  refine AWp.seqK fun K2 hK2 => ?_
  refine AWp.regK fun K3 hK3 => ?_
  refine AOps.read (ARead.fieldAddr tabOk rfl rfl rfl rfl (by decide) rfl) rfl rfl rfl ?_
  refine AOps.read (ARead.load tabOk rfl rfl rfl (by repeat (first | exact Has.head _ | apply Has.tail)) (by first | decide | omega) rfl rfl) rfl rfl rfl ?_
  refine AOps.nil (hK3 _ _ _ ?_); clear hK3 K3
  refine AWp.keep [1, 16] rfl ?_
  refine AWp.cond rfl (fun hb4 => ?_) (fun hb4 => ?_)
  · have hc4 := hb4; clear hb4; try simp only [decide_eq_true_eq, decide_eq_false_iff_not, Bool.not_eq_true, Bool.not_eq_false, Int.not_lt, Int.not_le, Bool.not_eq_true', Bool.not_eq_false'] at hc4
    have hw : wholeF n = [1] ++ numF n.pairs.length ++ n.pairs.flatMap pairB := by unfold wholeF; rw [if_pos hc4]
    have hwl := congrArg List.length hw
    simp only [List.length_append, List.length_cons, List.length_nil] at hwl
    refine AWp.regK fun K5 hK5 => ?_
    refine AOps.op1 (AOp.buildSliceC tabOk rfl rfl rfl rfl rfl rfl rfl rfl rfl (by decide) (by decide)) rfl rfl rfl ?_
    refine AOps.ghost (Ghost.closeRow (els := bytesA [1]) [17] ⟨rfl, trivial⟩ (by repeat (first | exact Has.head _ | apply Has.tail)) rfl (by decide) (by decide) (by decide) (by intro i hi; obtain rfl : i = 0 := (by omega); rfl) ?_)
    refine AOps.read (ARead.fieldAddr tabOk rfl rfl rfl rfl (by decide) rfl) rfl rfl rfl ?_
    refine AOps.read (ARead.load tabOk rfl rfl rfl (by repeat (first | exact Has.head _ | apply Has.tail)) (by first | decide | omega) rfl rfl) rfl rfl rfl ?_
    first | refine AOps.read (ARead.lenSl tabOk rfl rfl rfl rfl rfl) rfl rfl rfl ?_ | refine AOps.read (ARead.lenRow tabOk rfl rfl rfl rfl) rfl rfl rfl ?_
    refine AOps.keep [1, 17, 20] rfl ?_
    first | refine AOps.read (ARead.convW tabOk rfl rfl rfl rfl rfl rfl (u64_ok (by omega) (by omega))) rfl rfl rfl ?_ | refine AOps.read (ARead.convInt tabOk rfl rfl rfl rfl rfl rfl) rfl rfl rfl ?_
    refine AOps.op ((AOp.call rfl (.inr ⟨rfl, rfl, rfl⟩) rfl (nodeNum_gives [1] n.pairs.length (by omega) (by simp only [List.length_cons, List.length_nil]; omega) _ _)).frame (.cons _ _ _ _ _ _ (by repeat (first | exact Has.head _ | apply Has.tail)) (.nil _))) rfl rfl rfl ?_
    rintro N1 r1 H1 hN1 ⟨H1x, ⟨m1, rfl, rfl⟩, rfl⟩
    refine AOps.read (ARead.assign rfl rfl) rfl rfl rfl ?_
    refine AOps.nil (hK5 _ _ _ ?_); clear hK5 K5
    refine AWp.keep [1, 3] rfl ?_
    refine AWp.seqK fun K6 hK6 => ?_
    refine AWp.regK fun K7 hK7 => ?_
    refine AOps.read (ARead.fieldAddr tabOk rfl rfl rfl rfl (by decide) rfl) rfl rfl rfl ?_
    refine AOps.read (ARead.load tabOk rfl rfl rfl (by repeat (first | exact Has.head _ | apply Has.tail)) (by first | decide | omega) rfl rfl) rfl rfl rfl ?_
    first | refine AOps.read (ARead.lenSl tabOk rfl rfl rfl rfl rfl) rfl rfl rfl ?_ | refine AOps.read (ARead.lenRow tabOk rfl rfl rfl rfl) rfl rfl rfl ?_
    refine AOps.read (ARead.move rfl rfl) rfl rfl rfl ?_
    refine AOps.nil (hK7 _ _ _ ?_); clear hK7 K7
    refine AWp.keep [3, 24, 25, 26] rfl ?_
    refine AWp.block ?_
    refine AWp.loopP (α := Nat × Nat × List UInt8) [3, 24, 25, 26] (fun x N => [(3, .row x.2.1 false (bytesA x.2.2).length), (24, prs n.pn n.pairs), (25, vi n.pairs.length), (26, vi x.1)]) (fun x N => [(x.2.1, .row 1 false (bytesA x.2.2))]) (fun x N => x.1 ≤ n.pairs.length ∧ x.2.2 ++ (n.pairs.drop x.1).flatMap pairB = wholeF n) (fun x => n.pairs.length - x.1) (0, m1, [1] ++ numF n.pairs.length) rfl (.cons _ _ _ _ _ _ (by repeat (first | exact Has.head _ | apply Has.tail)) (.nil _)) (⟨Nat.zero_le _, hw.symm⟩) (fun x N hN hg K9 hK9 => ?_)
    obtain ⟨hg1, hg2⟩ := hg
    refine AWp.regK fun K10 hK10 => ?_
    refine AOps.read (ARead.binOp rfl rfl rfl rfl) rfl rfl rfl ?_
    refine AOps.nil (hK10 _ _ _ ?_); clear hK10 K10
    refine AWp.keep [3, 24, 25, 26, 27] rfl ?_
    refine AWp.seqK fun K11 hK11 => ?_
    refine AWp.cond rfl (fun hb12 => ?_) (fun hb12 => ?_)
    · have hc12 := hb12; clear hb12; try simp only [decide_eq_true_eq, decide_eq_false_iff_not, Bool.not_eq_true, Bool.not_eq_false, Int.not_lt, Int.not_le, Bool.not_eq_true', Bool.not_eq_false'] at hc12
      have hlt : x.1 < n.pairs.length := by omega
      rw [drop_getD pr0 hlt, List.flatMap_cons] at hg2
      have hgl := congrArg List.length hg2
      simp only [List.length_append] at hgl
      refine AWp.skip (hK11 _ _ _ ?_); try clear hK11 K11
      refine AWp.keep [3, 24, 25, 26] rfl ?_
      refine AWp.seqK fun K13 hK13 => ?_
      refine AWp.block ?_
      refine AWp.regK fun K15 hK15 => ?_
      first | refine AOps.read (ARead.indexAddrF tabOk rfl rfl rfl rfl rfl rfl rfl (by omega) (by omega)) rfl rfl rfl ?_ | refine AOps.read (ARead.indexAddr tabOk rfl rfl rfl rfl rfl rfl rfl (by omega) (by omega)) rfl rfl rfl ?_ | refine AOps.read (ARead.indexAddrA tabOk rfl rfl rfl rfl rfl rfl rfl (by omega) (by omega)) rfl rfl rfl ?_
      first | refine AOps.read (ARead.loadF tabOk rfl rfl rfl rfl) rfl rfl rfl ?_ | refine AOps.read (ARead.load tabOk rfl rfl rfl (by repeat (first | exact Has.head _ | apply Has.tail)) (by first | decide | omega) rfl rfl) rfl rfl rfl ?_ | refine AOps.read (ARead.loadC tabOk rfl rfl rfl (by repeat (first | exact Has.head _ | apply Has.tail)) rfl rfl) rfl rfl rfl ?_
      refine AOps.op1 (AOp.alloc tabOk rfl rfl rfl) rfl rfl rfl ?_
      first | refine AOps.op10 (AOp.storeC tabOk rfl rfl rfl rfl (by repeat (first | exact Has.head _ | apply Has.tail)) rfl (Nat.le_of_ble_eq_true rfl) rfl) rfl rfl ?_ | refine AOps.op10 (AOp.store tabOk rfl rfl rfl rfl (by repeat (first | exact Has.head _ | apply Has.tail)) (by first | decide | omega) rfl (by decide) rfl) rfl rfl ?_
      refine AOps.nil (hK15 _ _ _ ?_); clear hK15 K15
      refine AWp.keep [3, 5, 24, 25, 26] rfl ?_
      refine AWp.region ?_
      refine AOps.read (ARead.move rfl rfl) rfl rfl rfl ?_
      refine AOps.read (ARead.fieldAddr tabOk rfl rfl rfl rfl (by decide) rfl) rfl rfl rfl ?_
      refine AOps.read (ARead.load tabOk rfl rfl rfl (by repeat (first | exact Has.head _ | apply Has.tail)) (by first | decide | omega) rfl rfl) rfl rfl rfl ?_
      refine AOps.read (ARead.fieldAddr tabOk rfl rfl rfl rfl (by decide) rfl) rfl rfl rfl ?_
      refine AOps.keep [3, 24, 25, 26, 30, 32, 33] rfl ?_
      refine AOps.read (ARead.load tabOk rfl rfl rfl (by repeat (first | exact Has.head _ | apply Has.tail)) (by first | decide | omega) rfl rfl) rfl rfl rfl ?_
      refine AOps.op1 (AOp.buildLit tabOk (strF) ([]) ([(n.pairs.getD x.1 pr0).key, (n.pairs.getD x.1 pr0).val]) rfl rfl rfl rfl rfl rfl rfl rfl rfl (by first | decide | (simp only [List.length_cons, List.length_nil]; decide)) (by first | decide | (simp only [List.length_cons, List.length_nil]; decide)) rfl (by intro i hi; (try simp only [List.length_cons, List.length_nil] at hi); rcases i with _ | _ | _ | i <;> first | rfl | omega)) rfl rfl rfl ?_
      refine AOps.op ((AOp.call rfl (.inr ⟨rfl, rfl, rfl⟩) rfl (nodeText_gives x.2.2 false [(n.pairs.getD x.1 pr0).key, (n.pairs.getD x.1 pr0).val] (by simp) (by have hp := hpairs _ (getD_mem (d := pr0) hlt); intro s hs; rcases List.mem_cons.1 hs with rfl | hs; exact Nat.le_trans hp.1 (by decide); rcases List.mem_cons.1 hs with rfl | hs; exact Nat.le_trans hp.2 (by decide); cases hs) (by simp only [pairB] at hgl; omega) _ _)).frame (.cons _ _ _ _ _ _ (by repeat (first | exact Has.head _ | apply Has.tail)) (.nil _))) rfl rfl rfl ?_
      rintro N2 r2 H2 hN2 ⟨H2x, ⟨m2, rfl, rfl⟩, rfl⟩
      refine AOps.read (ARead.assign rfl rfl) rfl rfl rfl ?_
      refine AOps.nil (hK13 _ _ _ ?_); try clear hK13 K13
      refine AWp.keep [3, 24, 25, 26] rfl ?_
      refine AWp.region ?_
      first | refine AOps.read (ARead.binW rfl rfl rfl rfl (i64_ok (by omega) (by omega))) rfl rfl rfl ?_ | refine AOps.read (ARead.binOp rfl rfl rfl rfl) rfl rfl rfl ?_
      refine AOps.read (ARead.move rfl rfl) rfl rfl rfl ?_
      (try clear hK15 K15); (try clear hK14 K14); (try clear hK13 K13); (try clear hK12 K12); (try clear hK11 K11); (try clear hK10 K10); (try clear hK8 K8); (try clear hK7 K7); (try clear hK6 K6); (try clear hK5 K5); (try clear hK4 K4); (try clear hK3 K3); (try clear hK2 K2); (try clear hK1 K1)
      refine AOps.nil (hK9 _ _ _ (x.1 + 1, m2, x.2.2 ++ textsF [(n.pairs.getD x.1 pr0).key, (n.pairs.getD x.1 pr0).val]) _ (by rfl) (.cons _ _ _ _ _ _ (by repeat (first | exact Has.head _ | apply Has.tail)) (.nil _)) (⟨by omega, by rw [← hg2, List.append_assoc]; rfl⟩) (by show _ - (x.1 + 1) < _; omega))
    · have hc12 := hb12; clear hb12; try simp only [decide_eq_true_eq, decide_eq_false_iff_not, Bool.not_eq_true, Bool.not_eq_false, Int.not_lt, Int.not_le, Bool.not_eq_true', Bool.not_eq_false'] at hc12
      rw [List.drop_of_length_le (by omega), List.flatMap_nil, List.append_nil] at hg2
      have hend : x.2.2 = wholeF n := hg2
      refine AWp.exit (Or.inl ⟨rfl, (hK6 _ _ _ ?_)⟩); try clear hK6 K6
      refine AWp.keep [3] rfl ?_
      refine AWp.regK fun K16 hK16 => ?_
      refine AOps.read (ARead.move rfl rfl) rfl rfl rfl ?_
      refine AOps.read (ARead.assign rfl rfl) rfl rfl rfl ?_
      refine AOps.nil (hK16 _ _ _ ?_); clear hK16 K16
      refine AWp.keep [2] rfl ?_
      refine AWp.ret ?_
      refine ⟨Or.inr rfl, _, (.tmp _ _ _ _ rfl .nil), ?_⟩
      (try clear hK16 K16); (try clear hK15 K15); (try clear hK14 K14); (try clear hK13 K13); (try clear hK12 K12); (try clear hK11 K11); (try clear hK10 K10); (try clear hK9 K9); (try clear hK8 K8); (try clear hK7 K7); (try clear hK6 K6); (try clear hK5 K5); (try clear hK4 K4); (try clear hK3 K3); (try clear hK2 K2); (try clear hK1 K1)
      rw [hend]
      exact ⟨_, _, .cons _ _ _ _ _ _ (.head _) (.nil _), _, rfl, rfl⟩
  · have hc4 := hb4; clear hb4; try simp only [decide_eq_true_eq, decide_eq_false_iff_not, Bool.not_eq_true, Bool.not_eq_false, Int.not_lt, Int.not_le, Bool.not_eq_true', Bool.not_eq_false'] at hc4
    have hw : wholeF n = [2] ++ numF n.kids.length ++ n.kids.flatMap kidB ++ textsF n.pivots ++ n.bufs.flatMap bufB := by unfold wholeF; rw [if_neg (by simp [hc4])]
    have hwl := congrArg List.length hw
    simp only [List.length_append, List.length_cons, List.length_nil] at hwl
    refine AWp.skip (hK2 _ _ _ ?_); try clear hK2 K2
    refine AWp.keep [1] rfl ?_
    refine AWp.regK fun K17 hK17 => ?_
    refine AOps.op1 (AOp.buildSliceC tabOk rfl rfl rfl rfl rfl rfl rfl rfl rfl (by decide) (by decide)) rfl rfl rfl ?_
    refine AOps.ghost (Ghost.closeRow (els := bytesA [2]) [39] ⟨rfl, trivial⟩ (by repeat (first | exact Has.head _ | apply Has.tail)) rfl (by decide) (by decide) (by decide) (by intro i hi; obtain rfl : i = 0 := (by omega); rfl) ?_)
    refine AOps.read (ARead.fieldAddr tabOk rfl rfl rfl rfl (by decide) rfl) rfl rfl rfl ?_
    refine AOps.read (ARead.load tabOk rfl rfl rfl (by repeat (first | exact Has.head _ | apply Has.tail)) (by first | decide | omega) rfl rfl) rfl rfl rfl ?_
    first | refine AOps.read (ARead.lenSl tabOk rfl rfl rfl rfl rfl) rfl rfl rfl ?_ | refine AOps.read (ARead.lenRow tabOk rfl rfl rfl rfl) rfl rfl rfl ?_
    refine AOps.keep [1, 39, 42] rfl ?_
    first | refine AOps.read (ARead.convW tabOk rfl rfl rfl rfl rfl rfl (u64_ok (by omega) (by omega))) rfl rfl rfl ?_ | refine AOps.read (ARead.convInt tabOk rfl rfl rfl rfl rfl rfl) rfl rfl rfl ?_
    refine AOps.op ((AOp.call rfl (.inr ⟨rfl, rfl, rfl⟩) rfl (nodeNum_gives [2] n.kids.length (by omega) (by simp only [List.length_cons, List.length_nil]; omega) _ _)).frame (.cons _ _ _ _ _ _ (by repeat (first | exact Has.head _ | apply Has.tail)) (.nil _))) rfl rfl rfl ?_
    rintro N3 r3 H3 hN3 ⟨H3x, ⟨m3, rfl, rfl⟩, rfl⟩
    refine AOps.read (ARead.assign rfl rfl) rfl rfl rfl ?_
    refine AOps.nil (hK17 _ _ _ ?_); clear hK17 K17
    refine AWp.keep [1, 6] rfl ?_
    refine AWp.seqK fun K18 hK18 => ?_
    refine AWp.regK fun K19 hK19 => ?_
    refine AOps.read (ARead.fieldAddr tabOk rfl rfl rfl rfl (by decide) rfl) rfl rfl rfl ?_
    refine AOps.read (ARead.load tabOk rfl rfl rfl (by repeat (first | exact Has.head _ | apply Has.tail)) (by first | decide | omega) rfl rfl) rfl rfl rfl ?_
    first | refine AOps.read (ARead.lenSl tabOk rfl rfl rfl rfl rfl) rfl rfl rfl ?_ | refine AOps.read (ARead.lenRow tabOk rfl rfl rfl rfl) rfl rfl rfl ?_
    refine AOps.read (ARead.move rfl rfl) rfl rfl rfl ?_
    refine AOps.nil (hK19 _ _ _ ?_); clear hK19 K19
    refine AWp.keep [1, 6, 46, 47, 48] rfl ?_
    refine AWp.block ?_
    refine AWp.loopP (α := Nat × Nat × List UInt8) [1, 6, 46, 47, 48] (fun x N => [(1, .ptr N0 5 0 0), (6, .row x.2.1 false (bytesA x.2.2).length), (46, ints n.kn n.kids), (47, vi n.kids.length), (48, vi x.1)]) (fun x N => [(x.2.1, .row 1 false (bytesA x.2.2)), (N0, vr (ndC n))]) (fun x N => x.1 ≤ n.kids.length ∧ x.2.2 ++ (n.kids.drop x.1).flatMap kidB ++ textsF n.pivots ++ n.bufs.flatMap bufB = wholeF n) (fun x => n.kids.length - x.1) (0, m3, [2] ++ numF n.kids.length) rfl (.cons _ _ _ _ _ _ (by repeat (first | exact Has.head _ | apply Has.tail)) (.cons _ _ _ _ _ _ (by repeat (first | exact Has.head _ | apply Has.tail)) (.nil _))) (⟨Nat.zero_le _, hw.symm⟩) (fun x N hN hg K21 hK21 => ?_)
    obtain ⟨hg1, hg2⟩ := hg
    refine AWp.regK fun K22 hK22 => ?_
    refine AOps.read (ARead.binOp rfl rfl rfl rfl) rfl rfl rfl ?_
    refine AOps.nil (hK22 _ _ _ ?_); clear hK22 K22
    refine AWp.keep [1, 6, 46, 47, 48, 49] rfl ?_
    refine AWp.seqK fun K23 hK23 => ?_
    refine AWp.cond rfl (fun hb24 => ?_) (fun hb24 => ?_)
    · have hc24 := hb24; clear hb24; try simp only [decide_eq_true_eq, decide_eq_false_iff_not, Bool.not_eq_true, Bool.not_eq_false, Int.not_lt, Int.not_le, Bool.not_eq_true', Bool.not_eq_false'] at hc24
      have hlt : x.1 < n.kids.length := by omega
      have hk0 := hkids _ (getD_mem (d := 0) hlt)
      rw [drop_getD 0 hlt, List.flatMap_cons] at hg2
      have hgl := congrArg List.length hg2
      simp only [List.length_append] at hgl
      refine AWp.skip (hK23 _ _ _ ?_); try clear hK23 K23
      refine AWp.keep [1, 6, 46, 47, 48] rfl ?_
      refine AWp.seqK fun K25 hK25 => ?_
      refine AWp.block ?_
      refine AWp.regK fun K27 hK27 => ?_
      first | refine AOps.read (ARead.indexAddrF tabOk rfl rfl rfl rfl rfl rfl rfl (by omega) (by omega)) rfl rfl rfl ?_ | refine AOps.read (ARead.indexAddr tabOk rfl rfl rfl rfl rfl rfl rfl (by omega) (by omega)) rfl rfl rfl ?_ | refine AOps.read (ARead.indexAddrA tabOk rfl rfl rfl rfl rfl rfl rfl (by omega) (by omega)) rfl rfl rfl ?_
      first | refine AOps.read (ARead.loadF tabOk rfl rfl rfl rfl) rfl rfl rfl ?_ | refine AOps.read (ARead.load tabOk rfl rfl rfl (by repeat (first | exact Has.head _ | apply Has.tail)) (by first | decide | omega) rfl rfl) rfl rfl rfl ?_ | refine AOps.read (ARead.loadC tabOk rfl rfl rfl (by repeat (first | exact Has.head _ | apply Has.tail)) rfl rfl) rfl rfl rfl ?_
      refine AOps.read (ARead.assign rfl rfl) rfl rfl rfl ?_
      refine AOps.nil (hK27 _ _ _ ?_); clear hK27 K27
      refine AWp.keep [1, 6, 8, 46, 47, 48] rfl ?_
      refine AWp.region ?_
      refine AOps.read (ARead.move rfl rfl) rfl rfl rfl ?_
      refine AOps.read (ARead.move rfl rfl) rfl rfl rfl ?_
      refine AOps.read (ARead.convW (r := n.kids.getD x.1 0) tabOk rfl rfl rfl rfl rfl rfl (by rw [Int.toNat_natCast]; exact u64_ok hk0.1 (by omega))) rfl rfl rfl ?_
      refine AOps.op ((AOp.call rfl (.inr ⟨rfl, rfl, rfl⟩) rfl (nodeNum_int x.2.2 (n.kids.getD x.1 0) (hkids _ (getD_mem hlt)).1 (by have := (hkids _ (getD_mem (d := 0) hlt)).2; omega) (by simp only [kidB] at hgl; omega) _ _)).frame (.cons _ _ _ _ _ _ (by repeat (first | exact Has.head _ | apply Has.tail)) (.nil _))) rfl rfl rfl ?_
      rintro N4 r4 H4 hN4 ⟨H4x, ⟨m4, rfl, rfl⟩, rfl⟩
      refine AOps.keep [1, 6, 46, 47, 48, 55] rfl ?_
      refine AOps.read (ARead.assign rfl rfl) rfl rfl rfl ?_
      refine AOps.nil (hK25 _ _ _ ?_); try clear hK25 K25
      refine AWp.keep [1, 6, 46, 47, 48] rfl ?_
      refine AWp.region ?_
      first | refine AOps.read (ARead.binW rfl rfl rfl rfl (i64_ok (by omega) (by omega))) rfl rfl rfl ?_ | refine AOps.read (ARead.binOp rfl rfl rfl rfl) rfl rfl rfl ?_
      refine AOps.read (ARead.move rfl rfl) rfl rfl rfl ?_
      (try clear hK27 K27); (try clear hK26 K26); (try clear hK25 K25); (try clear hK24 K24); (try clear hK23 K23); (try clear hK22 K22); (try clear hK20 K20); (try clear hK19 K19); (try clear hK18 K18); (try clear hK17 K17); (try clear hK16 K16); (try clear hK15 K15); (try clear hK14 K14); (try clear hK13 K13); (try clear hK12 K12); (try clear hK11 K11); (try clear hK10 K10); (try clear hK9 K9); (try clear hK8 K8); (try clear hK7 K7); (try clear hK6 K6); (try clear hK5 K5); (try clear hK4 K4); (try clear hK3 K3); (try clear hK2 K2); (try clear hK1 K1)
      refine AOps.nil (hK21 _ _ _ (x.1 + 1, m4, x.2.2 ++ numF (n.kids.getD x.1 0).toNat) _ (by rfl) (.cons _ _ _ _ _ _ (by repeat (first | exact Has.head _ | apply Has.tail)) (.cons _ _ _ _ _ _ (by repeat (first | exact Has.head _ | apply Has.tail)) (.nil _))) (⟨by omega, by rw [← hg2]; simp only [List.append_assoc]; rfl⟩) (by show _ - (x.1 + 1) < _; omega))
    · have hc24 := hb24; clear hb24; try simp only [decide_eq_true_eq, decide_eq_false_iff_not, Bool.not_eq_true, Bool.not_eq_false, Int.not_lt, Int.not_le, Bool.not_eq_true', Bool.not_eq_false'] at hc24
      rw [List.drop_of_length_le (by omega), List.flatMap_nil, List.append_nil] at hg2
      have hgl := congrArg List.length hg2
      simp only [List.length_append] at hgl
      refine AWp.exit (Or.inl ⟨rfl, (hK18 _ _ _ ?_)⟩); try clear hK18 K18
      refine AWp.keep [1, 6] rfl ?_
      refine AWp.regK fun K28 hK28 => ?_
      refine AOps.read (ARead.move rfl rfl) rfl rfl rfl ?_
      refine AOps.read (ARead.fieldAddr tabOk rfl rfl rfl rfl (by decide) rfl) rfl rfl rfl ?_
      refine AOps.read (ARead.load tabOk rfl rfl rfl (by repeat (first | exact Has.head _ | apply Has.tail)) (by first | decide | omega) rfl rfl) rfl rfl rfl ?_
      refine AOps.op ((AOp.call rfl (.inr ⟨rfl, rfl, rfl⟩) rfl (nodeText_gives x.2.2 n.vn n.pivots okv (fun s hs => Nat.le_trans (hpiv s hs) (by decide)) (by omega) _ _)).frame (.cons _ _ _ _ _ _ (by repeat (first | exact Has.head _ | apply Has.tail)) (.nil _))) rfl rfl rfl ?_
      rintro N5 r5 H5 hN5 ⟨H5x, ⟨m5, rfl, rfl⟩, rfl⟩
      refine AOps.keep [1, 6, 60] rfl ?_
      refine AOps.read (ARead.assign rfl rfl) rfl rfl rfl ?_
      refine AOps.nil (hK28 _ _ _ ?_); clear hK28 K28
      refine AWp.keep [1, 6] rfl ?_
      refine AWp.seqK fun K29 hK29 => ?_
      refine AWp.regK fun K30 hK30 => ?_
      refine AOps.read (ARead.fieldAddr tabOk rfl rfl rfl rfl (by decide) rfl) rfl rfl rfl ?_
      refine AOps.read (ARead.load tabOk rfl rfl rfl (by repeat (first | exact Has.head _ | apply Has.tail)) (by first | decide | omega) rfl rfl) rfl rfl rfl ?_
      first | refine AOps.read (ARead.lenSl tabOk rfl rfl rfl rfl rfl) rfl rfl rfl ?_ | refine AOps.read (ARead.lenRow tabOk rfl rfl rfl rfl) rfl rfl rfl ?_
      refine AOps.read (ARead.move rfl rfl) rfl rfl rfl ?_
      refine AOps.nil (hK30 _ _ _ ?_); clear hK30 K30
      refine AWp.keep [6, 62, 63, 64] rfl ?_
      refine AWp.block ?_
      refine AWp.loopP (α := Nat × Nat × List UInt8) [6, 62, 63, 64] (fun x N => [(6, .row x.2.1 false (bytesA x.2.2).length), (62, bfs n.bn n.bufs), (63, vi n.bufs.length), (64, vi x.1)]) (fun x N => [(x.2.1, .row 1 false (bytesA x.2.2))]) (fun x N => x.1 ≤ n.bufs.length ∧ x.2.2 ++ (n.bufs.drop x.1).flatMap bufB = wholeF n) (fun x => n.bufs.length - x.1) (0, m5, x.2.2 ++ textsF n.pivots) rfl (.cons _ _ _ _ _ _ (by repeat (first | exact Has.head _ | apply Has.tail)) (.nil _)) (⟨Nat.zero_le _, hg2⟩) (fun x N hN hg K32 hK32 => ?_)
      obtain ⟨hg1, hg2⟩ := hg
      refine AWp.regK fun K33 hK33 => ?_
      refine AOps.read (ARead.binOp rfl rfl rfl rfl) rfl rfl rfl ?_
      refine AOps.nil (hK33 _ _ _ ?_); clear hK33 K33
      refine AWp.keep [6, 62, 63, 64, 65] rfl ?_
      refine AWp.seqK fun K34 hK34 => ?_
      refine AWp.cond rfl (fun hb35 => ?_) (fun hb35 => ?_)
      · have hc35 := hb35; clear hb35; try simp only [decide_eq_true_eq, decide_eq_false_iff_not, Bool.not_eq_true, Bool.not_eq_false, Int.not_lt, Int.not_le, Bool.not_eq_true', Bool.not_eq_false'] at hc35
        have hlt : x.1 < n.bufs.length := by omega
        rw [drop_getD bf0 hlt, List.flatMap_cons] at hg2
        obtain ⟨hbl, hent⟩ := hbufs _ (getD_mem (d := bf0) hlt)
        simp only [bufB] at hg2
        have hgl := congrArg List.length hg2
        simp only [List.length_append] at hgl
        refine AWp.skip (hK34 _ _ _ ?_); try clear hK34 K34
        refine AWp.keep [6, 62, 63, 64] rfl ?_
        refine AWp.seqK fun K36 hK36 => ?_
        refine AWp.block ?_
        refine AWp.regK fun K38 hK38 => ?_
        first | refine AOps.read (ARead.indexAddrF tabOk rfl rfl rfl rfl rfl rfl rfl (by omega) (by omega)) rfl rfl rfl ?_ | refine AOps.read (ARead.indexAddr tabOk rfl rfl rfl rfl rfl rfl rfl (by omega) (by omega)) rfl rfl rfl ?_ | refine AOps.read (ARead.indexAddrA tabOk rfl rfl rfl rfl rfl rfl rfl (by omega) (by omega)) rfl rfl rfl ?_
        first | refine AOps.read (ARead.loadF tabOk rfl rfl rfl rfl) rfl rfl rfl ?_ | refine AOps.read (ARead.load tabOk rfl rfl rfl (by repeat (first | exact Has.head _ | apply Has.tail)) (by first | decide | omega) rfl rfl) rfl rfl rfl ?_ | refine AOps.read (ARead.loadC tabOk rfl rfl rfl (by repeat (first | exact Has.head _ | apply Has.tail)) rfl rfl) rfl rfl rfl ?_
        refine AOps.read (ARead.assign rfl rfl) rfl rfl rfl ?_
        refine AOps.nil (hK38 _ _ _ ?_); clear hK38 K38
        refine AWp.keep [6, 10, 62, 63, 64] rfl ?_
        refine AWp.regK fun K39 hK39 => ?_
        refine AOps.read (ARead.move rfl rfl) rfl rfl rfl ?_
        refine AOps.read (ARead.move rfl rfl) rfl rfl rfl ?_
        first | refine AOps.read (ARead.lenSl tabOk rfl rfl rfl rfl rfl) rfl rfl rfl ?_ | refine AOps.read (ARead.lenRow tabOk rfl rfl rfl rfl) rfl rfl rfl ?_
        refine AOps.read (ARead.convW (r := ((n.bufs.getD x.1 bf0).l.length : Int)) tabOk rfl rfl rfl rfl rfl rfl (by rw [Int.toNat_natCast]; exact u64_ok (by omega) (by omega))) rfl rfl rfl ?_
        refine AOps.keep [6, 10, 62, 63, 64, 68, 71] rfl ?_
        refine AOps.op ((AOp.call rfl (.inr ⟨rfl, rfl, rfl⟩) rfl (nodeNum_gives x.2.2 (n.bufs.getD x.1 bf0).l.length (by omega) (by omega) _ _)).frame (.cons _ _ _ _ _ _ (by repeat (first | exact Has.head _ | apply Has.tail)) (.nil _))) rfl rfl rfl ?_
        rintro N6 r6 H6 hN6 ⟨H6x, ⟨m6, rfl, rfl⟩, rfl⟩
        refine AOps.read (ARead.assign rfl rfl) rfl rfl rfl ?_
        refine AOps.nil (hK39 _ _ _ ?_); clear hK39 K39
        refine AWp.keep [6, 10, 62, 63, 64] rfl ?_
        refine AWp.regK fun K40 hK40 => ?_
        refine AOps.read (ARead.move rfl rfl) rfl rfl rfl ?_
        first | refine AOps.read (ARead.lenSl tabOk rfl rfl rfl rfl rfl) rfl rfl rfl ?_ | refine AOps.read (ARead.lenRow tabOk rfl rfl rfl rfl) rfl rfl rfl ?_
        refine AOps.read (ARead.move rfl rfl) rfl rfl rfl ?_
        refine AOps.nil (hK40 _ _ _ ?_); clear hK40 K40
        refine AWp.keep [6, 62, 63, 64, 73, 74, 75] rfl ?_
        refine AWp.block ?_
        refine AWp.loopP (α := Nat × Nat × List UInt8) [6, 62, 63, 64, 73, 74, 75] (fun y N => [(6, .row y.2.1 false (bytesA y.2.2).length), (62, bfs n.bn n.bufs), (63, vi n.bufs.length), (64, vi x.1), (73, ens (n.bufs.getD x.1 bf0).nil (n.bufs.getD x.1 bf0).l), (74, vi (n.bufs.getD x.1 bf0).l.length), (75, vi y.1)]) (fun y N => [(y.2.1, .row 1 false (bytesA y.2.2))]) (fun y N => y.1 ≤ (n.bufs.getD x.1 bf0).l.length ∧ y.2.2 ++ ((n.bufs.getD x.1 bf0).l.drop y.1).flatMap entB ++ (n.bufs.drop (x.1 + 1)).flatMap bufB = wholeF n) (fun y => (n.bufs.getD x.1 bf0).l.length - y.1) (0, m6, x.2.2 ++ numF (n.bufs.getD x.1 bf0).l.length) rfl (.cons _ _ _ _ _ _ (by repeat (first | exact Has.head _ | apply Has.tail)) (.nil _)) (⟨Nat.zero_le _, by rw [← hg2]; simp only [List.append_assoc]; rfl⟩) (fun y N hN hg K42 hK42 => ?_)
        obtain ⟨hy1, hy2⟩ := hg
        refine AWp.regK fun K43 hK43 => ?_
        refine AOps.read (ARead.binOp rfl rfl rfl rfl) rfl rfl rfl ?_
        refine AOps.nil (hK43 _ _ _ ?_); clear hK43 K43
        refine AWp.keep [6, 62, 63, 64, 73, 74, 75, 76] rfl ?_
        refine AWp.seqK fun K44 hK44 => ?_
        refine AWp.cond rfl (fun hb45 => ?_) (fun hb45 => ?_)
        · have hc45 := hb45; clear hb45; try simp only [decide_eq_true_eq, decide_eq_false_iff_not, Bool.not_eq_true, Bool.not_eq_false, Int.not_lt, Int.not_le, Bool.not_eq_true', Bool.not_eq_false'] at hc45
          have hlt4 : y.1 < (n.bufs.getD x.1 bf0).l.length := by omega
          rw [drop_getD en0 hlt4, List.flatMap_cons] at hy2
          have hen := hent _ (getD_mem (d := en0) hlt4)
          simp only [entB] at hy2
          have hyl := congrArg List.length hy2
          simp only [List.length_append] at hyl
          refine AWp.skip (hK44 _ _ _ ?_); try clear hK44 K44
          refine AWp.keep [6, 62, 63, 64, 73, 74, 75] rfl ?_
          refine AWp.seqK fun K46 hK46 => ?_
          refine AWp.block ?_
          refine AWp.regK fun K48 hK48 => ?_
          first | refine AOps.read (ARead.indexAddrF tabOk rfl rfl rfl rfl rfl rfl rfl (by omega) (by omega)) rfl rfl rfl ?_ | refine AOps.read (ARead.indexAddr tabOk rfl rfl rfl rfl rfl rfl rfl (by omega) (by omega)) rfl rfl rfl ?_ | refine AOps.read (ARead.indexAddrA tabOk rfl rfl rfl rfl rfl rfl rfl (by omega) (by omega)) rfl rfl rfl ?_
          first | refine AOps.read (ARead.loadF tabOk rfl rfl rfl rfl) rfl rfl rfl ?_ | refine AOps.read (ARead.load tabOk rfl rfl rfl (by repeat (first | exact Has.head _ | apply Has.tail)) (by first | decide | omega) rfl rfl) rfl rfl rfl ?_ | refine AOps.read (ARead.loadC tabOk rfl rfl rfl (by repeat (first | exact Has.head _ | apply Has.tail)) rfl rfl) rfl rfl rfl ?_
          refine AOps.op1 (AOp.alloc tabOk rfl rfl rfl) rfl rfl rfl ?_
          first | refine AOps.op10 (AOp.storeC tabOk rfl rfl rfl rfl (by repeat (first | exact Has.head _ | apply Has.tail)) rfl (Nat.le_of_ble_eq_true rfl) rfl) rfl rfl ?_ | refine AOps.op10 (AOp.store tabOk rfl rfl rfl rfl (by repeat (first | exact Has.head _ | apply Has.tail)) (by first | decide | omega) rfl (by decide) rfl) rfl rfl ?_
          refine AOps.nil (hK48 _ _ _ ?_); clear hK48 K48
          refine AWp.keep [6, 12, 62, 63, 64, 73, 74, 75] rfl ?_
          refine AWp.seqJ (α := Nat × Nat × List UInt8) [6, 12, 62, 63, 64, 73, 74, 75] (fun y2 N => [(6, .row y2.1 false (bytesA y2.2.2).length), (12, .ptr y2.2.1 7 0 0), (62, bfs n.bn n.bufs), (63, vi n.bufs.length), (64, vi x.1), (73, ens (n.bufs.getD x.1 bf0).nil (n.bufs.getD x.1 bf0).l), (74, vi (n.bufs.getD x.1 bf0).l.length), (75, vi y.1)]) (fun y2 N => [(y2.1, .row 1 false (bytesA y2.2.2)), (y2.2.1, vr (enA ((n.bufs.getD x.1 bf0).l.getD y.1 en0)))]) (fun y2 N => y2.2.2 = y.2.2 ++ numF ((n.bufs.getD x.1 bf0).l.getD y.1 en0).seq.toNat ++ [UInt8.ofNat ((n.bufs.getD x.1 bf0).l.getD y.1 en0).op.kind.toNat]) (fun y2 N hg => ?_) (fun K49 hK49 => ?_)
          rotate_left
          · skip
            refine AWp.drawn mixed (.cons _ _ _ _ _ _ (.head _) (.nil _)) ?_
            refine AAny.take 0 (ARead.move rfl rfl) rfl (by kernel_rfl) (by kernel_rfl) (by kernel_rfl) rfl rfl rfl ?_
            refine AAny.take 1 (ARead.fieldAddr tabOk rfl rfl rfl rfl (by decide) rfl) rfl (by kernel_rfl) (by kernel_rfl) (by kernel_rfl) rfl rfl rfl ?_
            refine AAny.keep [12, 79, 80] [6, 12, 62, 63, 64, 73, 74, 75, 79, 80] rfl rfl ?_
            refine AAny.take 2 (ARead.load tabOk rfl rfl rfl (by repeat (first | exact Has.head _ | apply Has.tail)) (by first | decide | omega) rfl rfl) rfl (by kernel_rfl) (by kernel_rfl) (by kernel_rfl) rfl rfl rfl ?_
            refine AAny.take 4 (ARead.fieldAddr tabOk rfl rfl rfl rfl (by decide) rfl) rfl (by kernel_rfl) (by kernel_rfl) (by kernel_rfl) rfl rfl rfl ?_
            refine AAny.take 5 (ARead.fieldAddr tabOk rfl rfl rfl rfl (by decide) rfl) rfl (by kernel_rfl) (by kernel_rfl) (by kernel_rfl) rfl rfl rfl ?_
            refine AAny.keep [79, 81, 84] [6, 12, 62, 63, 64, 73, 74, 75, 79, 81, 84] rfl rfl ?_
            refine AAny.take 6 (ARead.load tabOk rfl rfl rfl (by repeat (first | exact Has.head _ | apply Has.tail)) (by first | decide | omega) rfl rfl) rfl (by kernel_rfl) (by kernel_rfl) (by kernel_rfl) rfl rfl rfl ?_
            refine AAny.take 7 (ARead.convW (r := ((UInt8.ofNat ((n.bufs.getD x.1 bf0).l.getD y.1 en0).op.kind.toNat).toNat : Int)) tabOk rfl rfl rfl rfl rfl rfl (kindB hen)) rfl (by kernel_rfl) (by kernel_rfl) (by kernel_rfl) rfl rfl rfl ?_
            refine AAny.two 3 8 (by kernel_rfl) ?_ ?_
            · skip
              refine AStep.opd (AOp.call rfl (.inr ⟨rfl, rfl, rfl⟩) rfl (nodeNum_int y.2.2 ((n.bufs.getD x.1 bf0).l.getD y.1 en0).seq hen.seq.1 hen.seq.2 (by omega) _ _)) rfl rfl rfl rfl ?_
              rintro N7 r7 H7 hN7 ⟨m7, rfl, rfl⟩
              refine AAny.keep [86] [6, 12, 62, 63, 64, 73, 74, 75, 82, 86] rfl rfl ?_
              refine AAny.one 8 (by kernel_rfl) ?_
              refine AStep.op1 (AOp.buildLit tabOk (byteF) (0) ([UInt8.ofNat ((n.bufs.getD x.1 bf0).l.getD y.1 en0).op.kind.toNat]) rfl rfl rfl rfl rfl rfl rfl rfl rfl (by first | decide | (simp only [List.length_cons, List.length_nil]; decide)) (by first | decide | (simp only [List.length_cons, List.length_nil]; decide)) rfl (by intro i hi; (try simp only [List.length_cons, List.length_nil] at hi); rcases i with _ | _ | _ | i <;> first | rfl | omega)) rfl rfl rfl rfl ?_
              refine AAny.one 9 (by kernel_rfl) ?_
              refine AStep.op1 (AOp.append tabOk (els' := bytesA (y.2.2 ++ numF ((n.bufs.getD x.1 bf0).l.getD y.1 en0).seq.toNat ++ [UInt8.ofNat ((n.bufs.getD x.1 bf0).l.getD y.1 en0).op.kind.toNat])) (nil' := false) rfl rfl rfl rfl rfl rfl rfl rfl (by repeat (first | exact Has.head _ | apply Has.tail)) (.fv _ _ _ rfl) (by first | rfl | simp [AV.one]) (by simp only [bytesA, List.length_map, List.length_range, List.length_append, List.length_cons, List.length_nil] at *; omega) (by rw [← bytesA_app (y.2.2 ++ numF ((n.bufs.getD x.1 bf0).l.getD y.1 en0).seq.toNat)]; rfl) rfl) rfl rfl rfl rfl ?_
              refine AAny.one 10 (by kernel_rfl) ?_
              refine AStep.read (ARead.assign rfl rfl) rfl rfl rfl rfl ?_
              (try clear hK48 K48); (try clear hK47 K47); (try clear hK46 K46); (try clear hK45 K45); (try clear hK44 K44); (try clear hK43 K43); (try clear hK42 K42); (try clear hK41 K41); (try clear hK40 K40); (try clear hK39 K39); (try clear hK38 K38); (try clear hK37 K37); (try clear hK36 K36); (try clear hK35 K35); (try clear hK34 K34); (try clear hK33 K33); (try clear hK32 K32); (try clear hK31 K31); (try clear hK30 K30); (try clear hK29 K29); (try clear hK28 K28); (try clear hK27 K27); (try clear hK26 K26); (try clear hK25 K25); (try clear hK24 K24); (try clear hK23 K23); (try clear hK22 K22); (try clear hK21 K21); (try clear hK20 K20); (try clear hK19 K19); (try clear hK18 K18); (try clear hK17 K17); (try clear hK16 K16); (try clear hK15 K15); (try clear hK14 K14); (try clear hK13 K13); (try clear hK12 K12); (try clear hK11 K11); (try clear hK10 K10); (try clear hK9 K9); (try clear hK8 K8); (try clear hK7 K7); (try clear hK6 K6); (try clear hK5 K5); (try clear hK4 K4); (try clear hK3 K3); (try clear hK2 K2); (try clear hK1 K1)
              refine AAny.done (by kernel_rfl) (hK49 _ _ _ (N7, N, y.2.2 ++ numF ((n.bufs.getD x.1 bf0).l.getD y.1 en0).seq.toNat ++ [UInt8.ofNat ((n.bufs.getD x.1 bf0).l.getD y.1 en0).op.kind.toNat]) _ (by rfl) (.cons _ _ _ _ _ _ (by repeat (first | exact Has.head _ | apply Has.tail)) (.cons _ _ _ _ _ _ (by repeat (first | exact Has.head _ | apply Has.tail)) (.nil _))) (rfl))
            · skip
              refine AStep.op1 (AOp.buildLit tabOk (byteF) (0) ([UInt8.ofNat ((n.bufs.getD x.1 bf0).l.getD y.1 en0).op.kind.toNat]) rfl rfl rfl rfl rfl rfl rfl rfl rfl (by first | decide | (simp only [List.length_cons, List.length_nil]; decide)) (by first | decide | (simp only [List.length_cons, List.length_nil]; decide)) rfl (by intro i hi; (try simp only [List.length_cons, List.length_nil] at hi); rcases i with _ | _ | _ | i <;> first | rfl | omega)) rfl rfl rfl rfl ?_
              refine AAny.keep [79, 81] [6, 12, 62, 63, 64, 73, 74, 75, 79, 81, 87] rfl rfl ?_
              refine AAny.one 3 (by kernel_rfl) ?_
              refine AStep.opd (AOp.call rfl (.inr ⟨rfl, rfl, rfl⟩) rfl (nodeNum_int y.2.2 ((n.bufs.getD x.1 bf0).l.getD y.1 en0).seq hen.seq.1 hen.seq.2 (by omega) _ _)) rfl rfl rfl rfl ?_
              rintro N7 r7 H7 hN7 ⟨m7, rfl, rfl⟩
              refine AAny.one 9 (by kernel_rfl) ?_
              refine AStep.op1 (AOp.append tabOk (els' := bytesA (y.2.2 ++ numF ((n.bufs.getD x.1 bf0).l.getD y.1 en0).seq.toNat ++ [UInt8.ofNat ((n.bufs.getD x.1 bf0).l.getD y.1 en0).op.kind.toNat])) (nil' := false) rfl rfl rfl rfl rfl rfl rfl rfl (by repeat (first | exact Has.head _ | apply Has.tail)) (.fv _ _ _ rfl) (by first | rfl | simp [AV.one]) (by simp only [bytesA, List.length_map, List.length_range, List.length_append, List.length_cons, List.length_nil] at *; omega) (by rw [← bytesA_app (y.2.2 ++ numF ((n.bufs.getD x.1 bf0).l.getD y.1 en0).seq.toNat)]; rfl) rfl) rfl rfl rfl rfl ?_
              refine AAny.one 10 (by kernel_rfl) ?_
              refine AStep.read (ARead.assign rfl rfl) rfl rfl rfl rfl ?_
              (try clear hK48 K48); (try clear hK47 K47); (try clear hK46 K46); (try clear hK45 K45); (try clear hK44 K44); (try clear hK43 K43); (try clear hK42 K42); (try clear hK41 K41); (try clear hK40 K40); (try clear hK39 K39); (try clear hK38 K38); (try clear hK37 K37); (try clear hK36 K36); (try clear hK35 K35); (try clear hK34 K34); (try clear hK33 K33); (try clear hK32 K32); (try clear hK31 K31); (try clear hK30 K30); (try clear hK29 K29); (try clear hK28 K28); (try clear hK27 K27); (try clear hK26 K26); (try clear hK25 K25); (try clear hK24 K24); (try clear hK23 K23); (try clear hK22 K22); (try clear hK21 K21); (try clear hK20 K20); (try clear hK19 K19); (try clear hK18 K18); (try clear hK17 K17); (try clear hK16 K16); (try clear hK15 K15); (try clear hK14 K14); (try clear hK13 K13); (try clear hK12 K12); (try clear hK11 K11); (try clear hK10 K10); (try clear hK9 K9); (try clear hK8 K8); (try clear hK7 K7); (try clear hK6 K6); (try clear hK5 K5); (try clear hK4 K4); (try clear hK3 K3); (try clear hK2 K2); (try clear hK1 K1)
              refine AAny.done (by kernel_rfl) (hK49 _ _ _ (N7, N, y.2.2 ++ numF ((n.bufs.getD x.1 bf0).l.getD y.1 en0).seq.toNat ++ [UInt8.ofNat ((n.bufs.getD x.1 bf0).l.getD y.1 en0).op.kind.toNat]) _ (by rfl) (.cons _ _ _ _ _ _ (by repeat (first | exact Has.head _ | apply Has.tail)) (.cons _ _ _ _ _ _ (by repeat (first | exact Has.head _ | apply Has.tail)) (.nil _))) (rfl))
          · skip
            have hb2 := hg
            refine AWp.regK fun K50 hK50 => ?_
            first | refine AOps.read (ARead.fieldAddrF tabOk rfl rfl rfl rfl (by decide) rfl) rfl rfl rfl ?_ | refine AOps.read (ARead.fieldAddr tabOk rfl rfl rfl rfl (by decide) rfl) rfl rfl rfl ?_
            refine AOps.op ((AOp.call rfl (.inr ⟨rfl, rfl, rfl⟩) rfl (fields_ok ((n.bufs.getD x.1 bf0).l.getD y.1 en0) hen.kind _ _)).frame (.cons _ _ _ _ _ _ (by repeat (first | exact Has.head _ | apply Has.tail)) (.nil _))) rfl rfl rfl ?_
            rintro N9 r9 H9 hN9 ⟨H9x, ⟨m9, rfl, rfl⟩, rfl⟩
            first | refine AOps.read (ARead.lenSl tabOk rfl rfl rfl rfl rfl) rfl rfl rfl ?_ | refine AOps.read (ARead.lenRow tabOk rfl rfl rfl rfl) rfl rfl rfl ?_
            refine AOps.read (ARead.move rfl rfl) rfl rfl rfl ?_
            refine AOps.nil (hK50 _ _ _ ?_); clear hK50 K50
            refine AWp.keep [6, 62, 63, 64, 73, 74, 75, 90, 91, 92] rfl ?_
            refine AWp.block ?_
            refine AWp.loopP (α := Nat × Nat × List UInt8) [6, 62, 63, 64, 73, 74, 75, 90, 91, 92] (fun z N => [(6, .row z.2.1 false (bytesA z.2.2).length), (62, bfs n.bn n.bufs), (63, vi n.bufs.length), (64, vi x.1), (73, ens (n.bufs.getD x.1 bf0).nil (n.bufs.getD x.1 bf0).l), (74, vi (n.bufs.getD x.1 bf0).l.length), (75, vi y.1), (90, .sl m9 1 0 (opTexts ((n.bufs.getD x.1 bf0).l.getD y.1 en0).op).length (some (opTexts ((n.bufs.getD x.1 bf0).l.getD y.1 en0).op).length)), (91, vi (opTexts ((n.bufs.getD x.1 bf0).l.getD y.1 en0).op).length), (92, vi z.1)]) (fun z N => [(z.2.1, .row 1 false (bytesA z.2.2)), (m9, vr ((fieldsO ((n.bufs.getD x.1 bf0).l.getD y.1 en0).op.kind).map fun j => AV.ptr y2.2.1 7 0 j)), (y2.2.1, vr (enA ((n.bufs.getD x.1 bf0).l.getD y.1 en0)))]) (fun z N => z.1 ≤ (opTexts ((n.bufs.getD x.1 bf0).l.getD y.1 en0).op).length ∧ z.2.2 ++ textsF ((opTexts ((n.bufs.getD x.1 bf0).l.getD y.1 en0).op).drop z.1) ++ ((n.bufs.getD x.1 bf0).l.drop (y.1 + 1)).flatMap entB ++ (n.bufs.drop (x.1 + 1)).flatMap bufB = wholeF n) (fun z => (opTexts ((n.bufs.getD x.1 bf0).l.getD y.1 en0).op).length - z.1) (0, y2.1, y2.2.2) rfl (.cons _ _ _ _ _ _ (by repeat (first | exact Has.head _ | apply Has.tail)) (.cons _ _ _ _ _ _ (by repeat (first | exact Has.head _ | apply Has.tail)) (.cons _ _ _ _ _ _ (by repeat (first | exact Has.head _ | apply Has.tail)) (.nil _)))) (⟨Nat.zero_le _, by rw [← hy2, hb2]; simp only [List.append_assoc]; rfl⟩) (fun z N hN hg K52 hK52 => ?_)
            obtain ⟨hz1, hz2⟩ := hg
            refine AWp.regK fun K53 hK53 => ?_
            refine AOps.read (ARead.binOp rfl rfl rfl rfl) rfl rfl rfl ?_
            refine AOps.nil (hK53 _ _ _ ?_); clear hK53 K53
            refine AWp.keep [6, 62, 63, 64, 73, 74, 75, 90, 91, 92, 93] rfl ?_
            refine AWp.seqK fun K54 hK54 => ?_
            refine AWp.cond rfl (fun hb55 => ?_) (fun hb55 => ?_)
            · have hc55 := hb55; clear hb55; try simp only [decide_eq_true_eq, decide_eq_false_iff_not, Bool.not_eq_true, Bool.not_eq_false, Int.not_lt, Int.not_le, Bool.not_eq_true', Bool.not_eq_false'] at hc55
              have hlt5 : z.1 < (opTexts ((n.bufs.getD x.1 bf0).l.getD y.1 en0).op).length := by omega
              have hfew := opTexts_few ((n.bufs.getD x.1 bf0).l.getD y.1 en0)
              rw [drop_getD [] hlt5, textsF, List.flatMap_cons, ← textsF] at hz2
              have hzl := congrArg List.length hz2
              simp only [List.length_append] at hzl
              refine AWp.skip (hK54 _ _ _ ?_); try clear hK54 K54
              refine AWp.keep [6, 62, 63, 64, 73, 74, 75, 90, 91, 92] rfl ?_
              refine AWp.seqK fun K56 hK56 => ?_
              refine AWp.block ?_
              refine AWp.regK fun K58 hK58 => ?_
              first | refine AOps.read (ARead.indexAddrF tabOk rfl rfl rfl rfl rfl rfl rfl (by omega) (by omega)) rfl rfl rfl ?_ | refine AOps.read (ARead.indexAddr tabOk rfl rfl rfl rfl rfl rfl rfl (by omega) (by omega)) rfl rfl rfl ?_ | refine AOps.read (ARead.indexAddrA tabOk rfl rfl rfl rfl rfl rfl rfl (by omega) (by omega)) rfl rfl rfl ?_
              refine AOps.read (ARead.loadC (r := .ptr y2.2.1 7 0 ((fieldsO ((n.bufs.getD x.1 bf0).l.getD y.1 en0).op.kind).getD z.1 0)) tabOk rfl rfl rfl (by repeat (first | exact Has.head _ | apply Has.tail)) (field_ptr _ hen.kind _ _ hlt5) rfl) rfl rfl rfl ?_
              refine AOps.read (ARead.assign rfl rfl) rfl rfl rfl ?_
              refine AOps.nil (hK58 _ _ _ ?_); clear hK58 K58
              refine AWp.keep [6, 14, 62, 63, 64, 73, 74, 75, 90, 91, 92] rfl ?_
              refine AWp.region ?_
              refine AOps.read (ARead.move rfl rfl) rfl rfl rfl ?_
              refine AOps.read (ARead.move rfl rfl) rfl rfl rfl ?_
              refine AOps.read (ARead.nilCheck rfl rfl rfl) rfl rfl rfl ?_
              refine AOps.read (ARead.loadC (r := vs ((opTexts ((n.bufs.getD x.1 bf0).l.getD y.1 en0).op).getD z.1 [])) tabOk rfl rfl rfl (by repeat (first | exact Has.head _ | apply Has.tail)) (field_cell _ hen.kind _ hlt5) rfl) rfl rfl rfl ?_
              refine AOps.keep [6, 62, 63, 64, 73, 74, 75, 90, 91, 92, 96, 99] rfl ?_
              refine AOps.op1 (AOp.buildLit tabOk (strF) ([]) ([(opTexts ((n.bufs.getD x.1 bf0).l.getD y.1 en0).op).getD z.1 []]) rfl rfl rfl rfl rfl rfl rfl rfl rfl (by first | decide | (simp only [List.length_cons, List.length_nil]; decide)) (by first | decide | (simp only [List.length_cons, List.length_nil]; decide)) rfl (by intro i hi; (try simp only [List.length_cons, List.length_nil] at hi); rcases i with _ | _ | _ | i <;> first | rfl | omega)) rfl rfl rfl ?_
              refine AOps.op ((AOp.call rfl (.inr ⟨rfl, rfl, rfl⟩) rfl (nodeText_gives z.2.2 false [(opTexts ((n.bufs.getD x.1 bf0).l.getD y.1 en0).op).getD z.1 []] (by simp) (by intro s hs; rcases List.mem_cons.1 hs with rfl | hs; exact Nat.le_trans (opTexts_len _ hen _ (getD_mem hlt5)) (by decide); cases hs) (by have e1 : (textsF [(opTexts ((n.bufs.getD x.1 bf0).l.getD y.1 en0).op).getD z.1 []]).length = (textF ((opTexts ((n.bufs.getD x.1 bf0).l.getD y.1 en0).op).getD z.1 [])).length := (by simp [textsF]); omega) _ _)).frame (.cons _ _ _ _ _ _ (by repeat (first | exact Has.head _ | apply Has.tail)) (.nil _))) rfl rfl rfl ?_
              rintro N10 r10 H10 hN10 ⟨H10x, ⟨m10, rfl, rfl⟩, rfl⟩
              refine AOps.read (ARead.assign rfl rfl) rfl rfl rfl ?_
              refine AOps.nil (hK56 _ _ _ ?_); try clear hK56 K56
              refine AWp.keep [6, 62, 63, 64, 73, 74, 75, 90, 91, 92] rfl ?_
              refine AWp.region ?_
              first | refine AOps.read (ARead.binW rfl rfl rfl rfl (i64_ok (by omega) (by omega))) rfl rfl rfl ?_ | refine AOps.read (ARead.binOp rfl rfl rfl rfl) rfl rfl rfl ?_
              refine AOps.read (ARead.move rfl rfl) rfl rfl rfl ?_
              (try clear hK58 K58); (try clear hK57 K57); (try clear hK56 K56); (try clear hK55 K55); (try clear hK54 K54); (try clear hK53 K53); (try clear hK51 K51); (try clear hK50 K50); (try clear hK49 K49); (try clear hK48 K48); (try clear hK47 K47); (try clear hK46 K46); (try clear hK45 K45); (try clear hK44 K44); (try clear hK43 K43); (try clear hK42 K42); (try clear hK41 K41); (try clear hK40 K40); (try clear hK39 K39); (try clear hK38 K38); (try clear hK37 K37); (try clear hK36 K36); (try clear hK35 K35); (try clear hK34 K34); (try clear hK33 K33); (try clear hK32 K32); (try clear hK31 K31); (try clear hK30 K30); (try clear hK29 K29); (try clear hK28 K28); (try clear hK27 K27); (try clear hK26 K26); (try clear hK25 K25); (try clear hK24 K24); (try clear hK23 K23); (try clear hK22 K22); (try clear hK21 K21); (try clear hK20 K20); (try clear hK19 K19); (try clear hK18 K18); (try clear hK17 K17); (try clear hK16 K16); (try clear hK15 K15); (try clear hK14 K14); (try clear hK13 K13); (try clear hK12 K12); (try clear hK11 K11); (try clear hK10 K10); (try clear hK9 K9); (try clear hK8 K8); (try clear hK7 K7); (try clear hK6 K6); (try clear hK5 K5); (try clear hK4 K4); (try clear hK3 K3); (try clear hK2 K2); (try clear hK1 K1)
              refine AOps.nil (hK52 _ _ _ (z.1 + 1, m10, z.2.2 ++ textsF [(opTexts ((n.bufs.getD x.1 bf0).l.getD y.1 en0).op).getD z.1 []]) _ (by rfl) (.cons _ _ _ _ _ _ (by repeat (first | exact Has.head _ | apply Has.tail)) (.cons _ _ _ _ _ _ (by repeat (first | exact Has.head _ | apply Has.tail)) (.cons _ _ _ _ _ _ (by repeat (first | exact Has.head _ | apply Has.tail)) (.nil _)))) (⟨by omega, by rw [← hz2]; simp only [List.append_assoc, textsF, List.flatMap_cons, List.flatMap_nil, List.nil_append]⟩) (by show _ - (z.1 + 1) < _; omega))
            · have hc55 := hb55; clear hb55; try simp only [decide_eq_true_eq, decide_eq_false_iff_not, Bool.not_eq_true, Bool.not_eq_false, Int.not_lt, Int.not_le, Bool.not_eq_true', Bool.not_eq_false'] at hc55
              rw [List.drop_of_length_le (by omega), textsF, List.flatMap_nil, List.append_nil] at hz2
              refine AWp.exit (Or.inl ⟨rfl, (hK46 _ _ _ ?_)⟩); try clear hK46 K46
              refine AWp.keep [6, 62, 63, 64, 73, 74, 75] rfl ?_
              refine AWp.region ?_
              first | refine AOps.read (ARead.binW rfl rfl rfl rfl (i64_ok (by omega) (by omega))) rfl rfl rfl ?_ | refine AOps.read (ARead.binOp rfl rfl rfl rfl) rfl rfl rfl ?_
              refine AOps.read (ARead.move rfl rfl) rfl rfl rfl ?_
              (try clear hK58 K58); (try clear hK57 K57); (try clear hK56 K56); (try clear hK55 K55); (try clear hK54 K54); (try clear hK53 K53); (try clear hK52 K52); (try clear hK51 K51); (try clear hK50 K50); (try clear hK49 K49); (try clear hK48 K48); (try clear hK47 K47); (try clear hK46 K46); (try clear hK45 K45); (try clear hK44 K44); (try clear hK43 K43); (try clear hK41 K41); (try clear hK40 K40); (try clear hK39 K39); (try clear hK38 K38); (try clear hK37 K37); (try clear hK36 K36); (try clear hK35 K35); (try clear hK34 K34); (try clear hK33 K33); (try clear hK32 K32); (try clear hK31 K31); (try clear hK30 K30); (try clear hK29 K29); (try clear hK28 K28); (try clear hK27 K27); (try clear hK26 K26); (try clear hK25 K25); (try clear hK24 K24); (try clear hK23 K23); (try clear hK22 K22); (try clear hK21 K21); (try clear hK20 K20); (try clear hK19 K19); (try clear hK18 K18); (try clear hK17 K17); (try clear hK16 K16); (try clear hK15 K15); (try clear hK14 K14); (try clear hK13 K13); (try clear hK12 K12); (try clear hK11 K11); (try clear hK10 K10); (try clear hK9 K9); (try clear hK8 K8); (try clear hK7 K7); (try clear hK6 K6); (try clear hK5 K5); (try clear hK4 K4); (try clear hK3 K3); (try clear hK2 K2); (try clear hK1 K1)
              refine AOps.nil (hK42 _ _ _ (y.1 + 1, z.2.1, z.2.2) _ (by rfl) (.cons _ _ _ _ _ _ (by repeat (first | exact Has.head _ | apply Has.tail)) (.nil _)) (⟨by omega, hz2⟩) (by show _ - (y.1 + 1) < _; omega))
        · have hc45 := hb45; clear hb45; try simp only [decide_eq_true_eq, decide_eq_false_iff_not, Bool.not_eq_true, Bool.not_eq_false, Int.not_lt, Int.not_le, Bool.not_eq_true', Bool.not_eq_false'] at hc45
          rw [List.drop_of_length_le (by omega), List.flatMap_nil, List.append_nil] at hy2
          refine AWp.exit (Or.inl ⟨rfl, (hK36 _ _ _ ?_)⟩); try clear hK36 K36
          refine AWp.keep [6, 62, 63, 64] rfl ?_
          refine AWp.region ?_
          first | refine AOps.read (ARead.binW rfl rfl rfl rfl (i64_ok (by omega) (by omega))) rfl rfl rfl ?_ | refine AOps.read (ARead.binOp rfl rfl rfl rfl) rfl rfl rfl ?_
          refine AOps.read (ARead.move rfl rfl) rfl rfl rfl ?_
          (try clear hK58 K58); (try clear hK57 K57); (try clear hK56 K56); (try clear hK55 K55); (try clear hK54 K54); (try clear hK53 K53); (try clear hK52 K52); (try clear hK51 K51); (try clear hK50 K50); (try clear hK49 K49); (try clear hK48 K48); (try clear hK47 K47); (try clear hK46 K46); (try clear hK45 K45); (try clear hK44 K44); (try clear hK43 K43); (try clear hK42 K42); (try clear hK41 K41); (try clear hK40 K40); (try clear hK39 K39); (try clear hK38 K38); (try clear hK37 K37); (try clear hK36 K36); (try clear hK35 K35); (try clear hK34 K34); (try clear hK33 K33); (try clear hK31 K31); (try clear hK30 K30); (try clear hK29 K29); (try clear hK28 K28); (try clear hK27 K27); (try clear hK26 K26); (try clear hK25 K25); (try clear hK24 K24); (try clear hK23 K23); (try clear hK22 K22); (try clear hK21 K21); (try clear hK20 K20); (try clear hK19 K19); (try clear hK18 K18); (try clear hK17 K17); (try clear hK16 K16); (try clear hK15 K15); (try clear hK14 K14); (try clear hK13 K13); (try clear hK12 K12); (try clear hK11 K11); (try clear hK10 K10); (try clear hK9 K9); (try clear hK8 K8); (try clear hK7 K7); (try clear hK6 K6); (try clear hK5 K5); (try clear hK4 K4); (try clear hK3 K3); (try clear hK2 K2); (try clear hK1 K1)
          refine AOps.nil (hK32 _ _ _ (x.1 + 1, y.2.1, y.2.2) _ (by rfl) (.cons _ _ _ _ _ _ (by repeat (first | exact Has.head _ | apply Has.tail)) (.nil _)) (⟨by omega, hy2⟩) (by show _ - (x.1 + 1) < _; omega))
      · have hc35 := hb35; clear hb35; try simp only [decide_eq_true_eq, decide_eq_false_iff_not, Bool.not_eq_true, Bool.not_eq_false, Int.not_lt, Int.not_le, Bool.not_eq_true', Bool.not_eq_false'] at hc35
        rw [List.drop_of_length_le (by omega), List.flatMap_nil, List.append_nil] at hg2
        have hend : x.2.2 = wholeF n := hg2
        refine AWp.exit (Or.inl ⟨rfl, (hK29 _ _ _ ?_)⟩); try clear hK29 K29
        refine AWp.keep [6] rfl ?_
        refine AWp.regK fun K59 hK59 => ?_
        refine AOps.read (ARead.move rfl rfl) rfl rfl rfl ?_
        refine AOps.read (ARead.assign rfl rfl) rfl rfl rfl ?_
        refine AOps.nil (hK59 _ _ _ ?_); clear hK59 K59
        refine AWp.keep [2] rfl ?_
        refine AWp.ret ?_
        refine ⟨Or.inr rfl, _, (.tmp _ _ _ _ rfl .nil), ?_⟩
        (try clear hK59 K59); (try clear hK58 K58); (try clear hK57 K57); (try clear hK56 K56); (try clear hK55 K55); (try clear hK54 K54); (try clear hK53 K53); (try clear hK52 K52); (try clear hK51 K51); (try clear hK50 K50); (try clear hK49 K49); (try clear hK48 K48); (try clear hK47 K47); (try clear hK46 K46); (try clear hK45 K45); (try clear hK44 K44); (try clear hK43 K43); (try clear hK42 K42); (try clear hK41 K41); (try clear hK40 K40); (try clear hK39 K39); (try clear hK38 K38); (try clear hK37 K37); (try clear hK36 K36); (try clear hK35 K35); (try clear hK34 K34); (try clear hK33 K33); (try clear hK32 K32); (try clear hK31 K31); (try clear hK30 K30); (try clear hK29 K29); (try clear hK28 K28); (try clear hK27 K27); (try clear hK26 K26); (try clear hK25 K25); (try clear hK24 K24); (try clear hK23 K23); (try clear hK22 K22); (try clear hK21 K21); (try clear hK20 K20); (try clear hK19 K19); (try clear hK18 K18); (try clear hK17 K17); (try clear hK16 K16); (try clear hK15 K15); (try clear hK14 K14); (try clear hK13 K13); (try clear hK12 K12); (try clear hK11 K11); (try clear hK10 K10); (try clear hK9 K9); (try clear hK8 K8); (try clear hK7 K7); (try clear hK6 K6); (try clear hK5 K5); (try clear hK4 K4); (try clear hK3 K3); (try clear hK2 K2); (try clear hK1 K1)
        rw [hend]
        exact ⟨_, _, .cons _ _ _ _ _ _ (.head _) (.nil _), _, rfl, rfl⟩

end Go.Sl
