/- The walk of the law NodeChild. No condition beside those in the statements. -/
import Derived.Test.YtfbagkifhpnfjaaNode4
import Derived.Test.YtfbagkifhpnfjaaLive13
namespace Go.Sl
open Go Go.Proofs 
set_option linter.unusedVariables false
set_option linter.unusedSimpArgs false
set_option maxRecDepth 20000
set_option maxHeartbeats 400000
theorem nodeCheck_zero {n : Nd} (h : nodeCheckF n = 0) (hl : n.leaf = false) : nodeBadF n = false ∧ pivOkF none n.pivots = true := by
  unfold nodeCheckF at h
  rw [if_neg (by simp [hl])] at h
  split at h
  · cases h
  · split at h
    · cases h
    · rename_i h1 h2; exact ⟨by simpa using h1, by simpa using h2⟩

theorem child_law (l : List Str) (key : Str) (k : Nat) (i : Int) (hi : i = (childF key l : Nat)) (hp : pivOkF none l = true) (hk : l.length + 1 = k) :
    (bif bif bif bif true then decide (0 ≤ i) else false then decide (i < (k : Int)) else false then bif decide (i = 0) then true else (Op.bytesLess (l.getD (i - 1).toNat []) key || decide (l.getD (i - 1).toNat [] = key)) else false
      then bif decide (i = (l.length : Int)) then true else Op.bytesLess key (l.getD i.toNat []) else false) = true := by
  have hle := childF_le key l
  have h1 : decide (0 ≤ i) = true := decide_eq_true (by omega)
  have h2 : decide (i < (k : Int)) = true := decide_eq_true (by omega)
  have h3 : (bif decide (i = 0) then true else (Op.bytesLess (l.getD (i - 1).toNat []) key || decide (l.getD (i - 1).toNat [] = key))) = true := by
    cases h : decide (i = 0) with
    | true => rfl
    | false =>
      have h0 := of_decide_eq_false h
      have e : (i - 1).toNat = childF key l - 1 := by omega
      rw [e]
      exact (childF_spec key hp (childF key l - 1) _ (getD_lt [] (by omega))).1 (by omega)
  have h4 : (bif decide (i = (l.length : Int)) then true else Op.bytesLess key (l.getD i.toNat [])) = true := by
    cases h : decide (i = (l.length : Int)) with
    | true => rfl
    | false =>
      have h0 := of_decide_eq_false h
      have e : i.toNat = childF key l := by omega
      rw [e]
      have := childF_spec key hp (childF key l) _ (getD_lt [] (show childF key l < l.length by omega))
      have hn : sle (l.getD (childF key l) []) key = false := by
        cases hs : sle (l.getD (childF key l) []) key with
        | false => rfl
        | true => exact absurd (this.2 hs) (Nat.lt_irrefl _)
      rw [show sle (l.getD (childF key l) []) key = !Op.bytesLess key (l.getD (childF key l) []) from ble_not] at hn
      simpa using hn
  rw [h1, h2, h3, h4]; rfl

theorem lawNodeChild_ok (n : Nd) (ok : NdOk n) (key : Str) : APure Try.prog 8 [ndA n, vs key] (vb true) := by
  refine APure.intro fun N0 => ?_
  refine ACall.of_body tabOk (tab := tab) (fn := Try.f8) Try.func8 (by kernel_rfl) rfl (by simp [Try.f8]) ?_
  show AWp Try.prog 61 _ N0 [(0, ndA n), (1, vs key)] [] _
  refine AWp.regK fun K1 hK1 => ?_
  refine AOps.op1 (AOp.box rfl rfl rfl) rfl rfl rfl ?_
  refine AOps.read (ARead.assign rfl rfl) rfl rfl rfl ?_
  refine AOps.nil (hK1 _ _ _ ?_); clear hK1 K1
  refine AWp.keep [1, 2] rfl ?_
  refine AWp.regK fun K2 hK2 => ?_
  refine AOps.pcall (live13_ok) rfl (by first | exact .inr ⟨rfl, rfl, rfl⟩ | exact .inl rfl) rfl rfl rfl rfl (fun N hN => ?_)
  refine AOps.read (ARead.assign rfl rfl) rfl rfl rfl ?_
  refine AOps.nil (hK2 _ _ _ ?_); clear hK2 K2
  refine AWp.keep [1, 2, 5] rfl ?_
  refine AWp.seqK fun K3 hK3 => ?_
  refine AWp.regK fun K4 hK4 => ?_
  refine AOps.read (ARead.load tabOk rfl rfl rfl (by repeat (first | exact Has.head _ | apply Has.tail)) (by first | decide | omega) rfl rfl) rfl rfl rfl ?_
  refine AOps.pcall (nodeCheck_ok n ok) rfl (by first | exact .inr ⟨rfl, rfl, rfl⟩ | exact .inl rfl) rfl rfl rfl rfl (fun N hN => ?_)
  refine AOps.read (ARead.binOp rfl rfl rfl rfl) rfl rfl rfl ?_
  refine AOps.read (ARead.move rfl rfl) rfl rfl rfl ?_
  refine AOps.keep [1, 2, 5, 11] rfl ?_
  refine AOps.gread rfl rfl rfl rfl rfl (.cons 2 _ _ _ rfl (by first | exact .strip _ _ id | (refine .strip _ _ (fun h => ?_); simp_all; done) | exact .same _) .nil) (fun hG => ARead.fieldAddr tabOk rfl rfl rfl rfl (by decide) rfl) rfl rfl ?_
  refine AOps.gread rfl rfl rfl rfl rfl (.cons 12 _ _ _ rfl (by first | exact .strip _ _ id | (refine .strip _ _ (fun h => ?_); simp_all; done) | exact .same _) .nil) (fun hG => ARead.load tabOk rfl rfl rfl (by repeat (first | exact Has.head _ | apply Has.tail)) (by first | decide | omega) rfl rfl) rfl rfl ?_
  first | refine AOps.read (ARead.pickB rfl rfl rfl (by first | exact .strip _ _ id | (refine .strip _ _ (fun h => ?_); simp_all; done) | exact .same _) rfl (by first | exact .strip _ _ id | (refine .strip _ _ (fun h => ?_); simp_all; done) | exact .same _)) rfl rfl rfl ?_ | refine AOps.read (ARead.pick rfl rfl rfl) rfl rfl rfl ?_
  refine AOps.nil (hK4 _ _ _ ?_); clear hK4 K4
  refine AWp.keep [1, 2, 5, 14] rfl ?_
  refine AWp.cond rfl (fun hb5 => ?_) (fun hb5 => ?_)
  · have hc5 := hb5; clear hb5; try simp only [decide_eq_true_eq, decide_eq_false_iff_not, Bool.not_eq_true, Bool.not_eq_false, Int.not_lt, Int.not_le, Bool.not_eq_true', Bool.not_eq_false'] at hc5
    refine AWp.regK fun K6 hK6 => ?_
    refine AOps.read (ARead.move rfl rfl) rfl rfl rfl ?_
    refine AOps.read (ARead.assign rfl rfl) rfl rfl rfl ?_
    refine AOps.nil (hK6 _ _ _ ?_); clear hK6 K6
    refine AWp.keep [4] rfl ?_
    refine AWp.ret ?_
    refine ⟨Or.inr rfl, _, (.tmp _ _ _ _ rfl .nil), ?_⟩
    (try clear hK6 K6); (try clear hK5 K5); (try clear hK4 K4); (try clear hK3 K3); (try clear hK2 K2); (try clear hK1 K1)
    show packR _ = _
    simp only [packR]; try rw [child_law n.pivots key n.kids.length (nodeChildF n key) hch hp b4]
  · have hc5 := hb5; clear hb5; try simp only [decide_eq_true_eq, decide_eq_false_iff_not, Bool.not_eq_true, Bool.not_eq_false, Int.not_lt, Int.not_le, Bool.not_eq_true', Bool.not_eq_false'] at hc5
    have hz : nodeCheckF n = 0 ∧ n.leaf = false := by cases h : decide (nodeCheckF n = 0) <;> simp_all
    clear hc5
    obtain ⟨hbad, hp⟩ := nodeCheck_zero hz.1 hz.2
    obtain ⟨b1, b2, b3, b4, b5, b6, b7⟩ := nodeBad_false hbad
    have hch : nodeChildF n key = (childF key n.pivots : Nat) := by unfold nodeChildF; rw [if_neg (by simp [hz.2])]
    have hle := childF_le key n.pivots
    have hpv := ok.pivots
    refine AWp.skip (hK3 _ _ _ ?_); try clear hK3 K3
    refine AWp.keep [1, 2, 5] rfl ?_
    refine AWp.regK fun K7 hK7 => ?_
    refine AOps.read (ARead.load tabOk rfl rfl rfl (by repeat (first | exact Has.head _ | apply Has.tail)) (by first | decide | omega) rfl rfl) rfl rfl rfl ?_
    refine AOps.read (ARead.move rfl rfl) rfl rfl rfl ?_
    refine AOps.pcall (nodeChild_ok n key ok.pivots) rfl (by first | exact .inr ⟨rfl, rfl, rfl⟩ | exact .inl rfl) rfl rfl rfl rfl (fun N hN => ?_)
    refine AOps.read (ARead.assign rfl rfl) rfl rfl rfl ?_
    refine AOps.nil (hK7 _ _ _ ?_); clear hK7 K7
    refine AWp.keep [1, 2, 5, 6] rfl ?_
    refine AWp.regK fun K8 hK8 => ?_
    refine AOps.read (ARead.move rfl rfl) rfl rfl rfl ?_
    refine AOps.read (ARead.move rfl rfl) rfl rfl rfl ?_
    refine AOps.gread rfl rfl rfl rfl rfl (.cons 6 _ _ _ rfl (by first | exact .strip _ _ id | (refine .strip _ _ (fun h => ?_); simp_all; done) | exact .same _) .nil) (fun hG => ARead.move rfl rfl) rfl rfl ?_
    refine AOps.gread rfl rfl rfl rfl rfl (.cons 21 _ _ _ rfl (by first | exact .strip _ _ id | (refine .strip _ _ (fun h => ?_); simp_all; done) | exact .same _) .nil) (fun hG => ARead.binOp rfl rfl rfl rfl) rfl rfl ?_
    refine AOps.keep [1, 2, 6, 20, 22] rfl ?_
    first | refine AOps.read (ARead.pickB rfl rfl rfl (by first | exact .strip _ _ id | (refine .strip _ _ (fun h => ?_); simp_all; done) | exact .same _) rfl (by first | exact .strip _ _ id | (refine .strip _ _ (fun h => ?_); simp_all; done) | exact .same _)) rfl rfl rfl ?_ | refine AOps.read (ARead.pick rfl rfl rfl) rfl rfl rfl ?_
    refine AOps.read (ARead.move rfl rfl) rfl rfl rfl ?_
    refine AOps.gread rfl rfl rfl rfl rfl (.cons 6 _ _ _ rfl (by first | exact .strip _ _ id | (refine .strip _ _ (fun h => ?_); simp_all; done) | exact .same _) .nil) (fun hG => ARead.move rfl rfl) rfl rfl ?_
    refine AOps.gread rfl rfl rfl rfl rfl (.cons 2 _ _ _ rfl (by first | exact .strip _ _ id | (refine .strip _ _ (fun h => ?_); simp_all; done) | exact .same _) .nil) (fun hG => ARead.fieldAddr tabOk rfl rfl rfl rfl (by decide) rfl) rfl rfl ?_
    refine AOps.keep [1, 2, 6, 24, 25, 26] rfl ?_
    refine AOps.gread rfl rfl rfl rfl rfl (.cons 26 _ _ _ rfl (by first | exact .strip _ _ id | (refine .strip _ _ (fun h => ?_); simp_all; done) | exact .same _) .nil) (fun hG => ARead.load tabOk rfl rfl rfl (by repeat (first | exact Has.head _ | apply Has.tail)) (by first | decide | omega) rfl rfl) rfl rfl ?_
    first | refine AOps.gread rfl rfl rfl rfl rfl (.cons 27 _ _ _ rfl (by first | exact .strip _ _ id | (refine .strip _ _ (fun h => ?_); simp_all; done) | exact .same _) .nil) (fun hG => ARead.lenSl tabOk rfl rfl rfl rfl rfl) rfl rfl ?_ | refine AOps.gread rfl rfl rfl rfl rfl (.cons 27 _ _ _ rfl (by first | exact .strip _ _ id | (refine .strip _ _ (fun h => ?_); simp_all; done) | exact .same _) .nil) (fun hG => ARead.lenRow tabOk rfl rfl rfl rfl) rfl rfl ?_
    refine AOps.gread rfl rfl rfl rfl rfl (.cons 25 _ _ _ rfl (by first | exact .strip _ _ id | (refine .strip _ _ (fun h => ?_); simp_all; done) | exact .same _) (.cons 28 _ _ _ rfl (by first | exact .strip _ _ id | (refine .strip _ _ (fun h => ?_); simp_all; done) | exact .same _) .nil)) (fun hG => ARead.binOp rfl rfl rfl rfl) rfl rfl ?_
    first | refine AOps.read (ARead.pickB rfl rfl rfl (by first | exact .strip _ _ id | (refine .strip _ _ (fun h => ?_); simp_all; done) | exact .same _) rfl (by first | exact .strip _ _ id | (refine .strip _ _ (fun h => ?_); simp_all; done) | exact .same _)) rfl rfl rfl ?_ | refine AOps.read (ARead.pick rfl rfl rfl) rfl rfl rfl ?_
    refine AOps.keep [1, 2, 6, 30] rfl ?_
    refine AOps.read (ARead.move rfl rfl) rfl rfl rfl ?_
    refine AOps.gread rfl rfl rfl rfl rfl (.cons 6 _ _ _ rfl (by first | exact .strip _ _ id | (refine .strip _ _ (fun h => ?_); simp_all; done) | exact .same _) .nil) (fun hG => ARead.move rfl rfl) rfl rfl ?_
    refine AOps.gread rfl rfl rfl rfl rfl (.cons 32 _ _ _ rfl (by first | exact .strip _ _ id | (refine .strip _ _ (fun h => ?_); simp_all; done) | exact .same _) .nil) (fun hG => ARead.binOp rfl rfl rfl rfl) rfl rfl ?_
    refine AOps.gread rfl rfl rfl rfl rfl (.cons 33 _ _ _ rfl (by first | exact .strip _ _ id | (refine .strip _ _ (fun h => ?_); simp_all; done) | exact .same _) .nil) (fun hG => ARead.move rfl rfl) rfl rfl ?_
    refine AOps.keep [1, 2, 6, 31, 34] rfl ?_
    refine AOps.gread rfl rfl rfl rfl rfl (.cons 2 _ _ _ rfl (by first | exact .strip _ _ id | (refine .strip _ _ (fun h => ?_); simp_all; done) | exact .same _) .nil) (fun hG => ARead.fieldAddr tabOk rfl rfl rfl rfl (by decide) rfl) rfl rfl ?_
    refine AOps.gread rfl rfl rfl rfl rfl (.cons 35 _ _ _ rfl (by first | exact .strip _ _ id | (refine .strip _ _ (fun h => ?_); simp_all; done) | exact .same _) .nil) (fun hG => ARead.load tabOk rfl rfl rfl (by repeat (first | exact Has.head _ | apply Has.tail)) (by first | decide | omega) rfl rfl) rfl rfl ?_
    refine AOps.gread rfl rfl rfl rfl rfl (.cons 6 _ _ _ rfl (by first | exact .strip _ _ id | (refine .strip _ _ (fun h => ?_); simp_all; done) | exact .same _) .nil) (fun hG => ARead.move rfl rfl) rfl rfl ?_
    first | refine AOps.gread rfl rfl rfl rfl rfl (.cons 37 _ _ _ rfl (by first | exact .strip _ _ id | (refine .strip _ _ (fun h => ?_); simp_all; done) | exact .same _) .nil) (fun hG => ARead.binW rfl rfl rfl rfl (i64_ok (by first | omega | (simp at hG; omega)) (by first | omega | (simp at hG; omega)))) rfl rfl ?_ | refine AOps.gread rfl rfl rfl rfl rfl (.cons 37 _ _ _ rfl (by first | exact .strip _ _ id | (refine .strip _ _ (fun h => ?_); simp_all; done) | exact .same _) .nil) (fun hG => ARead.binOp rfl rfl rfl rfl) rfl rfl ?_
    refine AOps.keep [1, 2, 6, 31, 34, 36, 38] rfl ?_
    first | refine AOps.gread rfl rfl rfl rfl rfl (.cons 36 _ _ _ rfl (by first | exact .strip _ _ id | (refine .strip _ _ (fun h => ?_); simp_all; done) | exact .same _) (.cons 38 _ _ _ rfl (by first | exact .strip _ _ id | (refine .strip _ _ (fun h => ?_); simp_all; done) | exact .same _) .nil)) (fun hG => ARead.indexAddrF tabOk rfl rfl rfl rfl rfl rfl rfl (by first | omega | (simp at hG; omega)) (by first | omega | (simp at hG; omega))) rfl rfl ?_ | refine AOps.gread rfl rfl rfl rfl rfl (.cons 36 _ _ _ rfl (by first | exact .strip _ _ id | (refine .strip _ _ (fun h => ?_); simp_all; done) | exact .same _) (.cons 38 _ _ _ rfl (by first | exact .strip _ _ id | (refine .strip _ _ (fun h => ?_); simp_all; done) | exact .same _) .nil)) (fun hG => ARead.indexAddr tabOk rfl rfl rfl rfl rfl rfl rfl (by first | omega | (simp at hG; omega)) (by first | omega | (simp at hG; omega))) rfl rfl ?_ | refine AOps.gread rfl rfl rfl rfl rfl (.cons 36 _ _ _ rfl (by first | exact .strip _ _ id | (refine .strip _ _ (fun h => ?_); simp_all; done) | exact .same _) (.cons 38 _ _ _ rfl (by first | exact .strip _ _ id | (refine .strip _ _ (fun h => ?_); simp_all; done) | exact .same _) .nil)) (fun hG => ARead.indexAddrA tabOk rfl rfl rfl rfl rfl rfl rfl (by first | omega | (simp at hG; omega)) (by first | omega | (simp at hG; omega))) rfl rfl ?_
    first | refine AOps.gread rfl rfl rfl rfl rfl (.cons 39 _ _ _ rfl (by first | exact .strip _ _ id | (refine .strip _ _ (fun h => ?_); simp_all; done) | exact .same _) .nil) (fun hG => ARead.loadF tabOk rfl rfl rfl rfl) rfl rfl ?_ | refine AOps.gread rfl rfl rfl rfl rfl (.cons 39 _ _ _ rfl (by first | exact .strip _ _ id | (refine .strip _ _ (fun h => ?_); simp_all; done) | exact .same _) .nil) (fun hG => ARead.load tabOk rfl rfl rfl (by repeat (first | exact Has.head _ | apply Has.tail)) (by first | decide | omega) rfl rfl) rfl rfl ?_ | refine AOps.gread rfl rfl rfl rfl rfl (.cons 39 _ _ _ rfl (by first | exact .strip _ _ id | (refine .strip _ _ (fun h => ?_); simp_all; done) | exact .same _) .nil) (fun hG => ARead.loadC tabOk rfl rfl rfl (by repeat (first | exact Has.head _ | apply Has.tail)) rfl rfl) rfl rfl ?_
    refine AOps.gread rfl rfl rfl rfl rfl (.cons 1 _ _ _ rfl (by first | exact .strip _ _ id | (refine .strip _ _ (fun h => ?_); simp_all; done) | exact .same _) .nil) (fun hG => ARead.move rfl rfl) rfl rfl ?_
    refine AOps.gread rfl rfl rfl rfl rfl (.cons 40 _ _ _ rfl (by first | exact .strip _ _ id | (refine .strip _ _ (fun h => ?_); simp_all; done) | exact .same _) (.cons 41 _ _ _ rfl (by first | exact .strip _ _ id | (refine .strip _ _ (fun h => ?_); simp_all; done) | exact .same _) .nil)) (fun hG => ARead.binOp rfl rfl rfl rfl) rfl rfl ?_
    refine AOps.keep [1, 2, 6, 31, 34, 42] rfl ?_
    first | refine AOps.gread rfl rfl rfl rfl rfl (.cons 34 _ _ _ rfl (by first | exact .strip _ _ id | (refine .strip _ _ (fun h => ?_); simp_all; done) | exact .same _) (.cons 42 _ _ _ rfl (by first | exact .strip _ _ id | (refine .strip _ _ (fun h => ?_); simp_all; done) | exact .same _) .nil)) (fun hG => ARead.pickB rfl rfl rfl (by first | exact .strip _ _ id | (refine .strip _ _ (fun h => ?_); simp_all; done) | exact .same _) rfl (by first | exact .strip _ _ id | (refine .strip _ _ (fun h => ?_); simp_all; done) | exact .same _)) rfl rfl ?_ | refine AOps.gread rfl rfl rfl rfl rfl (.cons 34 _ _ _ rfl (by first | exact .strip _ _ id | (refine .strip _ _ (fun h => ?_); simp_all; done) | exact .same _) (.cons 42 _ _ _ rfl (by first | exact .strip _ _ id | (refine .strip _ _ (fun h => ?_); simp_all; done) | exact .same _) .nil)) (fun hG => ARead.pick rfl rfl rfl) rfl rfl ?_
    first | refine AOps.read (ARead.pickB rfl rfl rfl (by first | exact .strip _ _ id | (refine .strip _ _ (fun h => ?_); simp_all; done) | exact .same _) rfl (by first | exact .strip _ _ id | (refine .strip _ _ (fun h => ?_); simp_all; done) | exact .same _)) rfl rfl rfl ?_ | refine AOps.read (ARead.pick rfl rfl rfl) rfl rfl rfl ?_
    refine AOps.read (ARead.move rfl rfl) rfl rfl rfl ?_
    refine AOps.gread rfl rfl rfl rfl rfl (.cons 6 _ _ _ rfl (by first | exact .strip _ _ id | (refine .strip _ _ (fun h => ?_); simp_all; done) | exact .same _) .nil) (fun hG => ARead.move rfl rfl) rfl rfl ?_
    refine AOps.keep [1, 2, 6, 45, 46] rfl ?_
    refine AOps.gread rfl rfl rfl rfl rfl (.cons 2 _ _ _ rfl (by first | exact .strip _ _ id | (refine .strip _ _ (fun h => ?_); simp_all; done) | exact .same _) .nil) (fun hG => ARead.fieldAddr tabOk rfl rfl rfl rfl (by decide) rfl) rfl rfl ?_
    refine AOps.gread rfl rfl rfl rfl rfl (.cons 47 _ _ _ rfl (by first | exact .strip _ _ id | (refine .strip _ _ (fun h => ?_); simp_all; done) | exact .same _) .nil) (fun hG => ARead.load tabOk rfl rfl rfl (by repeat (first | exact Has.head _ | apply Has.tail)) (by first | decide | omega) rfl rfl) rfl rfl ?_
    first | refine AOps.gread rfl rfl rfl rfl rfl (.cons 48 _ _ _ rfl (by first | exact .strip _ _ id | (refine .strip _ _ (fun h => ?_); simp_all; done) | exact .same _) .nil) (fun hG => ARead.lenSl tabOk rfl rfl rfl rfl rfl) rfl rfl ?_ | refine AOps.gread rfl rfl rfl rfl rfl (.cons 48 _ _ _ rfl (by first | exact .strip _ _ id | (refine .strip _ _ (fun h => ?_); simp_all; done) | exact .same _) .nil) (fun hG => ARead.lenRow tabOk rfl rfl rfl rfl) rfl rfl ?_
    refine AOps.gread rfl rfl rfl rfl rfl (.cons 46 _ _ _ rfl (by first | exact .strip _ _ id | (refine .strip _ _ (fun h => ?_); simp_all; done) | exact .same _) (.cons 49 _ _ _ rfl (by first | exact .strip _ _ id | (refine .strip _ _ (fun h => ?_); simp_all; done) | exact .same _) .nil)) (fun hG => ARead.binOp rfl rfl rfl rfl) rfl rfl ?_
    refine AOps.keep [1, 2, 6, 45, 50] rfl ?_
    refine AOps.gread rfl rfl rfl rfl rfl (.cons 50 _ _ _ rfl (by first | exact .strip _ _ id | (refine .strip _ _ (fun h => ?_); simp_all; done) | exact .same _) .nil) (fun hG => ARead.move rfl rfl) rfl rfl ?_
    refine AOps.gread rfl rfl rfl rfl rfl (.cons 1 _ _ _ rfl (by first | exact .strip _ _ id | (refine .strip _ _ (fun h => ?_); simp_all; done) | exact .same _) .nil) (fun hG => ARead.move rfl rfl) rfl rfl ?_
    refine AOps.gread rfl rfl rfl rfl rfl (.cons 2 _ _ _ rfl (by first | exact .strip _ _ id | (refine .strip _ _ (fun h => ?_); simp_all; done) | exact .same _) .nil) (fun hG => ARead.fieldAddr tabOk rfl rfl rfl rfl (by decide) rfl) rfl rfl ?_
    refine AOps.gread rfl rfl rfl rfl rfl (.cons 53 _ _ _ rfl (by first | exact .strip _ _ id | (refine .strip _ _ (fun h => ?_); simp_all; done) | exact .same _) .nil) (fun hG => ARead.load tabOk rfl rfl rfl (by repeat (first | exact Has.head _ | apply Has.tail)) (by first | decide | omega) rfl rfl) rfl rfl ?_
    refine AOps.keep [6, 45, 51, 52, 54] rfl ?_
    refine AOps.gread rfl rfl rfl rfl rfl (.cons 6 _ _ _ rfl (by first | exact .strip _ _ id | (refine .strip _ _ (fun h => ?_); simp_all; done) | exact .same _) .nil) (fun hG => ARead.move rfl rfl) rfl rfl ?_
    first | refine AOps.gread rfl rfl rfl rfl rfl (.cons 54 _ _ _ rfl (by first | exact .strip _ _ id | (refine .strip _ _ (fun h => ?_); simp_all; done) | exact .same _) (.cons 55 _ _ _ rfl (by first | exact .strip _ _ id | (refine .strip _ _ (fun h => ?_); simp_all; done) | exact .same _) .nil)) (fun hG => ARead.indexAddrF tabOk rfl rfl rfl rfl rfl rfl rfl (by first | omega | (simp at hG; omega)) (by first | omega | (simp at hG; omega))) rfl rfl ?_ | refine AOps.gread rfl rfl rfl rfl rfl (.cons 54 _ _ _ rfl (by first | exact .strip _ _ id | (refine .strip _ _ (fun h => ?_); simp_all; done) | exact .same _) (.cons 55 _ _ _ rfl (by first | exact .strip _ _ id | (refine .strip _ _ (fun h => ?_); simp_all; done) | exact .same _) .nil)) (fun hG => ARead.indexAddr tabOk rfl rfl rfl rfl rfl rfl rfl (by first | omega | (simp at hG; omega)) (by first | omega | (simp at hG; omega))) rfl rfl ?_ | refine AOps.gread rfl rfl rfl rfl rfl (.cons 54 _ _ _ rfl (by first | exact .strip _ _ id | (refine .strip _ _ (fun h => ?_); simp_all; done) | exact .same _) (.cons 55 _ _ _ rfl (by first | exact .strip _ _ id | (refine .strip _ _ (fun h => ?_); simp_all; done) | exact .same _) .nil)) (fun hG => ARead.indexAddrA tabOk rfl rfl rfl rfl rfl rfl rfl (by first | omega | (simp at hG; omega)) (by first | omega | (simp at hG; omega))) rfl rfl ?_
    first | refine AOps.gread rfl rfl rfl rfl rfl (.cons 56 _ _ _ rfl (by first | exact .strip _ _ id | (refine .strip _ _ (fun h => ?_); simp_all; done) | exact .same _) .nil) (fun hG => ARead.loadF tabOk rfl rfl rfl rfl) rfl rfl ?_ | refine AOps.gread rfl rfl rfl rfl rfl (.cons 56 _ _ _ rfl (by first | exact .strip _ _ id | (refine .strip _ _ (fun h => ?_); simp_all; done) | exact .same _) .nil) (fun hG => ARead.load tabOk rfl rfl rfl (by repeat (first | exact Has.head _ | apply Has.tail)) (by first | decide | omega) rfl rfl) rfl rfl ?_ | refine AOps.gread rfl rfl rfl rfl rfl (.cons 56 _ _ _ rfl (by first | exact .strip _ _ id | (refine .strip _ _ (fun h => ?_); simp_all; done) | exact .same _) .nil) (fun hG => ARead.loadC tabOk rfl rfl rfl (by repeat (first | exact Has.head _ | apply Has.tail)) rfl rfl) rfl rfl ?_
    refine AOps.gread rfl rfl rfl rfl rfl (.cons 52 _ _ _ rfl (by first | exact .strip _ _ id | (refine .strip _ _ (fun h => ?_); simp_all; done) | exact .same _) (.cons 57 _ _ _ rfl (by first | exact .strip _ _ id | (refine .strip _ _ (fun h => ?_); simp_all; done) | exact .same _) .nil)) (fun hG => ARead.binOp rfl rfl rfl rfl) rfl rfl ?_
    refine AOps.keep [45, 51, 58] rfl ?_
    first | refine AOps.gread rfl rfl rfl rfl rfl (.cons 51 _ _ _ rfl (by first | exact .strip _ _ id | (refine .strip _ _ (fun h => ?_); simp_all; done) | exact .same _) (.cons 58 _ _ _ rfl (by first | exact .strip _ _ id | (refine .strip _ _ (fun h => ?_); simp_all; done) | exact .same _) .nil)) (fun hG => ARead.pickB rfl rfl rfl (by first | exact .strip _ _ id | (refine .strip _ _ (fun h => ?_); simp_all; done) | exact .same _) rfl (by first | exact .strip _ _ id | (refine .strip _ _ (fun h => ?_); simp_all; done) | exact .same _)) rfl rfl ?_ | refine AOps.gread rfl rfl rfl rfl rfl (.cons 51 _ _ _ rfl (by first | exact .strip _ _ id | (refine .strip _ _ (fun h => ?_); simp_all; done) | exact .same _) (.cons 58 _ _ _ rfl (by first | exact .strip _ _ id | (refine .strip _ _ (fun h => ?_); simp_all; done) | exact .same _) .nil)) (fun hG => ARead.pick rfl rfl rfl) rfl rfl ?_
    first | refine AOps.read (ARead.pickB rfl rfl rfl (by first | exact .strip _ _ id | (refine .strip _ _ (fun h => ?_); simp_all; done) | exact .same _) rfl (by first | exact .strip _ _ id | (refine .strip _ _ (fun h => ?_); simp_all; done) | exact .same _)) rfl rfl rfl ?_ | refine AOps.read (ARead.pick rfl rfl rfl) rfl rfl rfl ?_
    refine AOps.read (ARead.assign rfl rfl) rfl rfl rfl ?_
    refine AOps.nil (hK8 _ _ _ ?_); clear hK8 K8
    refine AWp.keep [4] rfl ?_
    refine AWp.ret ?_
    refine ⟨Or.inr rfl, _, (.tmp _ _ _ _ rfl .nil), ?_⟩
    (try clear hK8 K8); (try clear hK7 K7); (try clear hK6 K6); (try clear hK5 K5); (try clear hK4 K4); (try clear hK3 K3); (try clear hK2 K2); (try clear hK1 K1)
    show packR _ = _
    simp only [packR]; try rw [child_law n.pivots key n.kids.length (nodeChildF n key) hch hp b4]

end Go.Sl
