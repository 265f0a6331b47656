/- Walks of package node, four: Child, and the law NodeChild. No condition beside those in the statements. -/
import Derived.Test.YtfbagkifhpnfjaaNode3
import Derived.Test.YtfbagkifhpnfjaaLive13
namespace Go.Sl
open Go Go.Proofs 
set_option linter.unusedVariables false
set_option linter.unusedSimpArgs false
set_option maxRecDepth 20000
set_option maxHeartbeats 400000
def childF (key : Str) : List Str → Nat
  | [] => 0
  | p :: l => if sle p key = true then childF key l + 1 else childF key l
theorem childF_le (key : Str) : ∀ (l : List Str), childF key l ≤ l.length
  | [] => Nat.le_refl _
  | p :: l => by
    have := childF_le key l
    simp only [childF, List.length_cons]
    split <;> omega
theorem pivOk_after : ∀ {q : Str} {l : List Str}, pivOkF (some q) l = true → ∀ (j : Nat) p, l[j]? = some p → Op.bytesLess q p = true
  | q, [], _, j, p, h => by simp at h
  | q, p' :: l, h, j, p, hp => by
    simp only [pivOkF, Bool.and_eq_true] at h
    obtain ⟨⟨_, h1⟩, h2⟩ := h
    cases j with
    | zero => simp at hp; subst hp; exact h1
    | succ j => exact bl_trans h1 (pivOk_after h2 j p (by simpa using hp))
theorem pivOk_weak {last : Option Str} {l : List Str} (h : pivOkF last l = true) : pivOkF none l = true := by
  cases l with
  | nil => rfl
  | cons p l => simp only [pivOkF, Bool.and_eq_true, decide_eq_true_eq] at h ⊢; exact ⟨⟨h.1.1, trivial⟩, h.2⟩
/-- The pivots at most the key are the first ones. -/
theorem childF_spec (key : Str) : ∀ {l : List Str}, pivOkF none l = true → ∀ (j : Nat) p, l[j]? = some p → (j < childF key l ↔ sle p key = true)
  | [], _, j, p, h => by simp at h
  | q :: l, h, j, p, hp => by
    have h' := h
    simp only [pivOkF, Bool.and_eq_true] at h'
    obtain ⟨⟨_, _⟩, h2⟩ := h'
    have ih := childF_spec key (pivOk_weak h2)
    by_cases hq : sle q key = true
    · simp only [childF, if_pos hq]
      cases j with
      | zero => simp at hp; subst hp; simp [hq]
      | succ j => rw [Nat.add_lt_add_iff_right]; exact ih j p (by simpa using hp)
    · simp only [childF, if_neg hq]
      have none : ∀ (i : Nat) r, l[i]? = some r → ¬ (sle r key = true) := fun i r hr hle => hq (bl_to_ble (bl_ble (pivOk_after h2 i r hr) hle))
      have h0 : childF key l = 0 := by
        rcases Nat.eq_zero_or_pos (childF key l) with h0 | h0
        · exact h0
        · have hlen := childF_le key l
          have hg := List.getElem?_eq_getElem (l := l) (i := 0) (by omega)
          exact absurd ((ih 0 _ hg).1 h0) (none 0 _ hg)
      rw [h0]
      cases j with
      | zero => simp at hp; subst hp; simp [hq]
      | succ j => simp [none j p (by simpa using hp)]
def nodeChildF (n : Nd) (key : Str) : Int := if n.leaf = true then 0 else childF key n.pivots

theorem nodeChild_ok (n : Nd) (key : Str) (h1 : n.pivots.length ≤ 1073741824) : APure Try.prog 35 [ndA n, vs key] (vi (nodeChildF n key)) := by
  refine APure.intro fun N0 => ?_
  refine ACall.of_body tabOk (tab := tab) (fn := Try.f35) Try.func35 (by kernel_rfl) rfl (by simp [Try.f35]) ?_
  show AWp Try.prog 24 _ N0 [(0, ndA n), (1, vs key)] [] _
  refine AWp.regK fun K1 hK1 => ?_
  refine AOps.op1 (AOp.box rfl rfl rfl) rfl rfl rfl ?_
  refine AOps.read (ARead.assign rfl rfl) rfl rfl rfl ?_
  refine AOps.nil (hK1 _ _ _ ?_); clear hK1 K1
  refine AWp.keep [1, 2] rfl ?_
  refine AWp.seqK fun K2 hK2 => ?_
  refine AWp.regK fun K3 hK3 => ?_
  refine AOps.read (ARead.fieldAddr tabOk rfl rfl rfl rfl (by decide) rfl) rfl rfl rfl ?_
  refine AOps.read (ARead.load tabOk rfl rfl rfl (by repeat (first | exact Has.head _ | apply Has.tail)) (by first | decide | omega) rfl rfl) rfl rfl rfl ?_
  refine AOps.nil (hK3 _ _ _ ?_); clear hK3 K3
  refine AWp.keep [1, 2, 9] rfl ?_
  refine AWp.cond rfl (fun hb4 => ?_) (fun hb4 => ?_)
  · have hc4 := hb4; clear hb4; try simp only [decide_eq_true_eq, decide_eq_false_iff_not, Bool.not_eq_true, Bool.not_eq_false, Int.not_lt, Int.not_le, Bool.not_eq_true', Bool.not_eq_false'] at hc4
    refine AWp.regK fun K5 hK5 => ?_
    refine AOps.read (ARead.assign rfl rfl) rfl rfl rfl ?_
    refine AOps.nil (hK5 _ _ _ ?_); clear hK5 K5
    refine AWp.keep [4] rfl ?_
    refine AWp.ret ?_
    refine ⟨Or.inr rfl, _, (.tmp _ _ _ _ rfl .nil), ?_⟩
    (try clear hK5 K5); (try clear hK4 K4); (try clear hK3 K3); (try clear hK2 K2); (try clear hK1 K1)
    show packR _ = _
    simp only [packR]; first | (rw [show nodeChildF n key = 0 from by unfold nodeChildF; rw [if_pos (by assumption)]]) | (rw [show nodeChildF n key = x.2 from by unfold nodeChildF; rw [if_neg (by simp_all)]; omega])
  · have hc4 := hb4; clear hb4; try simp only [decide_eq_true_eq, decide_eq_false_iff_not, Bool.not_eq_true, Bool.not_eq_false, Int.not_lt, Int.not_le, Bool.not_eq_true', Bool.not_eq_false'] at hc4
    refine AWp.skip (hK2 _ _ _ ?_); try clear hK2 K2
    refine AWp.keep [1, 2] rfl ?_
    refine AWp.regK fun K6 hK6 => ?_
    refine AOps.read (ARead.assign rfl rfl) rfl rfl rfl ?_
    refine AOps.nil (hK6 _ _ _ ?_); clear hK6 K6
    refine AWp.keep [1, 2, 5] rfl ?_
    refine AWp.seqK fun K7 hK7 => ?_
    refine AWp.regK fun K8 hK8 => ?_
    refine AOps.read (ARead.fieldAddr tabOk rfl rfl rfl rfl (by decide) rfl) rfl rfl rfl ?_
    refine AOps.read (ARead.load tabOk rfl rfl rfl (by repeat (first | exact Has.head _ | apply Has.tail)) (by first | decide | omega) rfl rfl) rfl rfl rfl ?_
    first | refine AOps.read (ARead.lenSl tabOk rfl rfl rfl rfl rfl) rfl rfl rfl ?_ | refine AOps.read (ARead.lenRow tabOk rfl rfl rfl rfl) rfl rfl rfl ?_
    refine AOps.read (ARead.move rfl rfl) rfl rfl rfl ?_
    refine AOps.nil (hK8 _ _ _ ?_); clear hK8 K8
    refine AWp.keep [1, 5, 11, 12, 13] rfl ?_
    refine AWp.block ?_
    refine AWp.loopP (α := Nat × Nat) [1, 5, 11, 12, 13] (fun x N => [(1, vs key), (5, vi x.2), (11, strs n.vn n.pivots), (12, vi n.pivots.length), (13, vi x.1)]) (fun x N => []) (fun x N => x.1 ≤ n.pivots.length ∧ x.2 ≤ x.1 ∧ x.2 + childF key (n.pivots.drop x.1) = childF key n.pivots) (fun x => n.pivots.length - x.1) (0, 0) rfl (.nil _) (⟨Nat.zero_le _, Nat.le_refl _, Nat.zero_add _⟩) (fun x N hN hg K10 hK10 => ?_)
    obtain ⟨hg1, hg2, hg3⟩ := hg
    refine AWp.regK fun K11 hK11 => ?_
    refine AOps.read (ARead.binOp rfl rfl rfl rfl) rfl rfl rfl ?_
    refine AOps.nil (hK11 _ _ _ ?_); clear hK11 K11
    refine AWp.keep [1, 5, 11, 12, 13, 14] rfl ?_
    refine AWp.seqK fun K12 hK12 => ?_
    refine AWp.cond rfl (fun hb13 => ?_) (fun hb13 => ?_)
    · have hc13 := hb13; clear hb13; try simp only [decide_eq_true_eq, decide_eq_false_iff_not, Bool.not_eq_true, Bool.not_eq_false, Int.not_lt, Int.not_le, Bool.not_eq_true', Bool.not_eq_false'] at hc13
      have hlt : x.1 < n.pivots.length := by omega
      rw [drop_getD [] hlt] at hg3
      simp only [childF] at hg3
      refine AWp.skip (hK12 _ _ _ ?_); try clear hK12 K12
      refine AWp.keep [1, 5, 11, 12, 13] rfl ?_
      refine AWp.seqK fun K14 hK14 => ?_
      refine AWp.block ?_
      refine AWp.regK fun K16 hK16 => ?_
      first | refine AOps.read (ARead.indexAddrF tabOk rfl rfl rfl rfl rfl rfl rfl (by omega) (by omega)) rfl rfl rfl ?_ | refine AOps.read (ARead.indexAddr tabOk rfl rfl rfl rfl rfl rfl rfl (by omega) (by omega)) rfl rfl rfl ?_ | refine AOps.read (ARead.indexAddrA tabOk rfl rfl rfl rfl rfl rfl rfl (by omega) (by omega)) rfl rfl rfl ?_
      first | refine AOps.read (ARead.loadF tabOk rfl rfl rfl rfl) rfl rfl rfl ?_ | refine AOps.read (ARead.load tabOk rfl rfl rfl (by repeat (first | exact Has.head _ | apply Has.tail)) (by first | decide | omega) rfl rfl) rfl rfl rfl ?_ | refine AOps.read (ARead.loadC tabOk rfl rfl rfl (by repeat (first | exact Has.head _ | apply Has.tail)) rfl rfl) rfl rfl rfl ?_
      refine AOps.read (ARead.assign rfl rfl) rfl rfl rfl ?_
      refine AOps.nil (hK16 _ _ _ ?_); clear hK16 K16
      refine AWp.keep [1, 5, 7, 11, 12, 13] rfl ?_
      refine AWp.regK fun K17 hK17 => ?_
      refine AOps.read (ARead.move rfl rfl) rfl rfl rfl ?_
      refine AOps.read (ARead.move rfl rfl) rfl rfl rfl ?_
      refine AOps.read (ARead.binOp rfl rfl rfl rfl) rfl rfl rfl ?_
      refine AOps.nil (hK17 _ _ _ ?_); clear hK17 K17
      refine AWp.keep [1, 5, 11, 12, 13, 19] rfl ?_
      refine AWp.cond rfl (fun hb18 => ?_) (fun hb18 => ?_)
      · have hc18 := hb18; clear hb18; try simp only [decide_eq_true_eq, decide_eq_false_iff_not, Bool.not_eq_true, Bool.not_eq_false, Int.not_lt, Int.not_le, Bool.not_eq_true', Bool.not_eq_false'] at hc18
        simp only [Int.toNat_natCast] at hc18
        refine AWp.region ?_
        refine AOps.read (ARead.move rfl rfl) rfl rfl rfl ?_
        first | refine AOps.read (ARead.binW rfl rfl rfl rfl (i64_ok (by omega) (by omega))) rfl rfl rfl ?_ | refine AOps.read (ARead.binOp rfl rfl rfl rfl) rfl rfl rfl ?_
        refine AOps.read (ARead.assign rfl rfl) rfl rfl rfl ?_
        refine AOps.nil (hK14 _ _ _ ?_); try clear hK14 K14
        refine AWp.keep [1, 5, 11, 12, 13] rfl ?_
        refine AWp.region ?_
        first | refine AOps.read (ARead.binW rfl rfl rfl rfl (i64_ok (by omega) (by omega))) rfl rfl rfl ?_ | refine AOps.read (ARead.binOp rfl rfl rfl rfl) rfl rfl rfl ?_
        refine AOps.read (ARead.move rfl rfl) rfl rfl rfl ?_
        (try clear hK18 K18); (try clear hK17 K17); (try clear hK16 K16); (try clear hK15 K15); (try clear hK14 K14); (try clear hK13 K13); (try clear hK12 K12); (try clear hK11 K11); (try clear hK9 K9); (try clear hK8 K8); (try clear hK7 K7); (try clear hK6 K6); (try clear hK5 K5); (try clear hK4 K4); (try clear hK3 K3); (try clear hK2 K2); (try clear hK1 K1)
        refine AOps.nil (hK10 _ _ _ (x.1 + 1, if sle (n.pivots.getD x.1 []) key = true then x.2 + 1 else x.2) _ (by first | (rw [if_pos hc18]; rfl) | (rw [if_neg (fun h => Bool.false_ne_true (hc18.symm.trans h))]; rfl)) (.nil _) (by dsimp only; first | (rw [if_pos hc18] at hg3 ⊢; exact ⟨by omega, by omega, by omega⟩) | (rw [if_neg (fun h => Bool.false_ne_true (hc18.symm.trans h))] at hg3 ⊢; exact ⟨by omega, by omega, by omega⟩)) (by show _ - (x.1 + 1) < _; omega))
      · have hc18 := hb18; clear hb18; try simp only [decide_eq_true_eq, decide_eq_false_iff_not, Bool.not_eq_true, Bool.not_eq_false, Int.not_lt, Int.not_le, Bool.not_eq_true', Bool.not_eq_false'] at hc18
        simp only [Int.toNat_natCast] at hc18
        refine AWp.skip (hK14 _ _ _ ?_); try clear hK14 K14
        refine AWp.keep [1, 5, 11, 12, 13] rfl ?_
        refine AWp.region ?_
        first | refine AOps.read (ARead.binW rfl rfl rfl rfl (i64_ok (by omega) (by omega))) rfl rfl rfl ?_ | refine AOps.read (ARead.binOp rfl rfl rfl rfl) rfl rfl rfl ?_
        refine AOps.read (ARead.move rfl rfl) rfl rfl rfl ?_
        (try clear hK18 K18); (try clear hK17 K17); (try clear hK16 K16); (try clear hK15 K15); (try clear hK14 K14); (try clear hK13 K13); (try clear hK12 K12); (try clear hK11 K11); (try clear hK9 K9); (try clear hK8 K8); (try clear hK7 K7); (try clear hK6 K6); (try clear hK5 K5); (try clear hK4 K4); (try clear hK3 K3); (try clear hK2 K2); (try clear hK1 K1)
        refine AOps.nil (hK10 _ _ _ (x.1 + 1, if sle (n.pivots.getD x.1 []) key = true then x.2 + 1 else x.2) _ (by first | (rw [if_pos hc18]; rfl) | (rw [if_neg (fun h => Bool.false_ne_true (hc18.symm.trans h))]; rfl)) (.nil _) (by dsimp only; first | (rw [if_pos hc18] at hg3 ⊢; exact ⟨by omega, by omega, by omega⟩) | (rw [if_neg (fun h => Bool.false_ne_true (hc18.symm.trans h))] at hg3 ⊢; exact ⟨by omega, by omega, by omega⟩)) (by show _ - (x.1 + 1) < _; omega))
    · have hc13 := hb13; clear hb13; try simp only [decide_eq_true_eq, decide_eq_false_iff_not, Bool.not_eq_true, Bool.not_eq_false, Int.not_lt, Int.not_le, Bool.not_eq_true', Bool.not_eq_false'] at hc13
      rw [List.drop_of_length_le (by omega)] at hg3
      simp only [childF] at hg3
      refine AWp.exit (Or.inl ⟨rfl, (hK7 _ _ _ ?_)⟩); try clear hK7 K7
      refine AWp.keep [5] rfl ?_
      refine AWp.regK fun K19 hK19 => ?_
      refine AOps.read (ARead.move rfl rfl) rfl rfl rfl ?_
      refine AOps.read (ARead.assign rfl rfl) rfl rfl rfl ?_
      refine AOps.nil (hK19 _ _ _ ?_); clear hK19 K19
      refine AWp.keep [4] rfl ?_
      refine AWp.ret ?_
      refine ⟨Or.inr rfl, _, (.tmp _ _ _ _ rfl .nil), ?_⟩
      (try clear hK19 K19); (try clear hK18 K18); (try clear hK17 K17); (try clear hK16 K16); (try clear hK15 K15); (try clear hK14 K14); (try clear hK13 K13); (try clear hK12 K12); (try clear hK11 K11); (try clear hK10 K10); (try clear hK9 K9); (try clear hK8 K8); (try clear hK7 K7); (try clear hK6 K6); (try clear hK5 K5); (try clear hK4 K4); (try clear hK3 K3); (try clear hK2 K2); (try clear hK1 K1)
      show packR _ = _
      simp only [packR]; first | (rw [show nodeChildF n key = 0 from by unfold nodeChildF; rw [if_pos (by assumption)]]) | (rw [show nodeChildF n key = x.2 from by unfold nodeChildF; rw [if_neg (by simp_all)]; omega])

end Go.Sl
