/- The walk of the reference 13: Check. No condition beside those in the statements. -/
import Derived.Test.YtfbagkifhpnfjaaRef3
import Derived.Test.YtfbagkifhpnfjaaNode10
namespace Go.Sl
open Go Go.Proofs 
set_option linter.unusedVariables false
set_option linter.unusedSimpArgs false
set_option maxRecDepth 20000
set_option maxHeartbeats 400000
def shapeF (n : Nd) : Bool :=
  bif bif bif bif decide (0 < (n.pairs.length : Int)) then true else decide ((n.kids.length : Int) < 2) then true else decide (8 < (n.kids.length : Int)) then true else !decide ((n.pivots.length : Int) = n.kids.length - 1) then true
    else !decide ((n.bufs.length : Int) = n.kids.length)
theorem bad_shape {n : Nd} (h : shapeF n = true) : nodeBadF n = true := by
  unfold nodeBadF; unfold shapeF at h; rw [h]; rfl
theorem foldMin_mem : ∀ (l : List Int) (a : Int), l.foldl (fun a b => if b < a then b else a) a = a ∨ l.foldl (fun a b => if b < a then b else a) a ∈ l
  | [], a => .inl rfl
  | y :: l, a => by
    simp only [List.foldl_cons]
    rcases foldMin_mem l (if y < a then y else a) with h | h
    · rw [h]; split <;> simp
    · exact .inr (List.mem_cons_of_mem _ h)
theorem foldMax_mem : ∀ (l : List Int) (a : Int), l.foldl (fun a b => if b > a then b else a) a = a ∨ l.foldl (fun a b => if b > a then b else a) a ∈ l
  | [], a => .inl rfl
  | y :: l, a => by
    simp only [List.foldl_cons]
    rcases foldMax_mem l (if y > a then y else a) with h | h
    · rw [h]; split <;> simp
    · exact .inr (List.mem_cons_of_mem _ h)
theorem minF_mem {l : List Int} (h : l ≠ []) : minF l ∈ l := by
  cases l with
  | nil => exact absurd rfl h
  | cons a l => rcases foldMin_mem l a with e | e <;> simp only [minF] <;> simp [e]
theorem maxF_mem {l : List Int} (h : l ≠ []) : maxF l ∈ l := by
  cases l with
  | nil => exact absurd rfl h
  | cons a l => rcases foldMax_mem l a with e | e <;> simp only [maxF] <;> simp [e]
theorem bad_kid {n : Nd} (hs : shapeF n = false) {x : Nat} (hx : x < n.kids.length) (h : (bif decide (n.kids.getD x 0 < 1) then true else decide (2147483647 < n.kids.getD x 0)) = true) : nodeBadF n = true := by
  unfold nodeBadF; unfold shapeF at hs; rw [hs]
  have m := getD_mem (d := 0) hx
  have h1 := minF_le m; have h2 := le_maxF m
  have h3 : n.kids.getD x 0 < 1 ∨ 2147483647 < n.kids.getD x 0 := by
    by_cases c : n.kids.getD x 0 < 1
    · exact .inl c
    · rw [decide_eq_false c] at h; exact .inr (of_decide_eq_true h)
  rcases h3 with h3 | h3
  · rw [decide_eq_true (show minF n.kids < 1 by omega)]; rfl
  · rw [decide_eq_true (show 2147483647 < maxF n.kids by omega)]; simp
theorem good_kids {n : Nd} (hs : shapeF n = false) (h : ∀ j, j < n.kids.length → 1 ≤ n.kids.getD j 0 ∧ n.kids.getD j 0 ≤ 2147483647) : nodeBadF n = false := by
  have hall : ∀ k ∈ n.kids, 1 ≤ k ∧ k ≤ 2147483647 := fun k hk => by
    obtain ⟨j, hj, e⟩ := List.getElem_of_mem hk
    have := h j hj
    rw [List.getD_eq_getElem?_getD, List.getElem?_eq_getElem hj, Option.getD_some, e] at this
    exact this
  have hne : n.kids ≠ [] := by
    rintro e
    unfold shapeF at hs
    rw [e] at hs
    simp at hs
  have h1 := hall _ (minF_mem hne); have h2 := hall _ (maxF_mem hne)
  unfold nodeBadF; unfold shapeF at hs; rw [hs, decide_eq_false (show ¬ minF n.kids < 1 by omega), decide_eq_false (show ¬ 2147483647 < maxF n.kids by omega)]; rfl
theorem kid_step {k : Int} (h : (bif decide (k < 1) then true else decide (2147483647 < k)) = false) : 1 ≤ k ∧ k ≤ 2147483647 := by
  by_cases c : k < 1
  · rw [decide_eq_true c] at h; cases h
  · rw [decide_eq_false c] at h; have := of_decide_eq_false h; omega
theorem out_step {lo hi : Str} {o : O6} {b : Bool} (h : (bif bif decide (o.kind = 5) then !coversF lo hi o.lo o.hi else false then true else bif !decide (o.kind = 5) then !spanHasF lo hi o.key else false) = b) : (!(withinF lo hi o)) = b := by
  rw [← h, withinF]
  by_cases c : o.kind = 5
  · rw [if_pos c, decide_eq_true c]; cases coversF lo hi o.lo o.hi <;> rfl
  · rw [if_neg c, decide_eq_false c]; rfl

theorem rCheck_ok (n : Nd) (ok : NdOk n) : APure Try.prog 40 [ndA n] (vi (nodeCheckF n)) := by
  refine APure.intro fun N0 => ?_
  obtain ⟨ok1, ok2, ok3, ok4, ok5⟩ := ok
  refine ACall.of_body tabOk (tab := tab) (fn := Try.f40) Try.func40 (by kernel_rfl) rfl (by simp [Try.f40]) ?_
  show AWp Try.prog 146 _ N0 [(0, ndA n)] [] _
  refine AWp.regK fun K1 hK1 => ?_
  refine AOps.op1 (AOp.box rfl rfl rfl) rfl rfl rfl ?_
  refine AOps.read (ARead.assign rfl rfl) rfl rfl rfl ?_
  refine AOps.nil (hK1 _ _ _ ?_); clear hK1 K1
  refine AWp.keep [1] rfl ?_
  refine AWp.seqK fun K2 hK2 => ?_
  refine AWp.regK fun K3 hK3 => ?_
  refine AOps.read (ARead.fieldAddr tabOk rfl rfl rfl rfl (by decide) rfl) rfl rfl rfl ?_
  refine AOps.read (ARead.load tabOk rfl rfl rfl (by repeat (first | exact Has.head _ | apply Has.tail)) (by first | decide | omega) rfl rfl) rfl rfl rfl ?_
  refine AOps.nil (hK3 _ _ _ ?_); clear hK3 K3
  refine AWp.keep [1, 14] rfl ?_
  refine AWp.cond rfl (fun hb4 => ?_) (fun hb4 => ?_)
  · have hc4 := hb4; clear hb4; try simp only [decide_eq_true_eq, decide_eq_false_iff_not, Bool.not_eq_true, Bool.not_eq_false, Int.not_lt, Int.not_le, Bool.not_eq_true', Bool.not_eq_false'] at hc4
    refine AWp.seqK fun K5 hK5 => ?_
    refine AWp.regK fun K6 hK6 => ?_
    refine AOps.read (ARead.fieldAddr tabOk rfl rfl rfl rfl (by decide) rfl) rfl rfl rfl ?_
    refine AOps.read (ARead.load tabOk rfl rfl rfl (by repeat (first | exact Has.head _ | apply Has.tail)) (by first | decide | omega) rfl rfl) rfl rfl rfl ?_
    first | refine AOps.read (ARead.lenSl tabOk rfl rfl rfl rfl rfl) rfl rfl rfl ?_ | refine AOps.read (ARead.lenRow tabOk rfl rfl rfl rfl) rfl rfl rfl ?_
    refine AOps.read (ARead.fieldAddr tabOk rfl rfl rfl rfl (by decide) rfl) rfl rfl rfl ?_
    refine AOps.keep [1, 17, 18] rfl ?_
    refine AOps.read (ARead.load tabOk rfl rfl rfl (by repeat (first | exact Has.head _ | apply Has.tail)) (by first | decide | omega) rfl rfl) rfl rfl rfl ?_
    first | refine AOps.read (ARead.lenSl tabOk rfl rfl rfl rfl rfl) rfl rfl rfl ?_ | refine AOps.read (ARead.lenRow tabOk rfl rfl rfl rfl) rfl rfl rfl ?_
    first | refine AOps.read (ARead.binW rfl rfl rfl rfl (i64_ok (by omega) (by omega))) rfl rfl rfl ?_ | refine AOps.read (ARead.binOp rfl rfl rfl rfl) rfl rfl rfl ?_
    refine AOps.read (ARead.fieldAddr tabOk rfl rfl rfl rfl (by decide) rfl) rfl rfl rfl ?_
    refine AOps.keep [1, 21, 22] rfl ?_
    refine AOps.read (ARead.load tabOk rfl rfl rfl (by repeat (first | exact Has.head _ | apply Has.tail)) (by first | decide | omega) rfl rfl) rfl rfl rfl ?_
    first | refine AOps.read (ARead.lenSl tabOk rfl rfl rfl rfl rfl) rfl rfl rfl ?_ | refine AOps.read (ARead.lenRow tabOk rfl rfl rfl rfl) rfl rfl rfl ?_
    first | refine AOps.read (ARead.binW rfl rfl rfl rfl (i64_ok (by omega) (by omega))) rfl rfl rfl ?_ | refine AOps.read (ARead.binOp rfl rfl rfl rfl) rfl rfl rfl ?_
    refine AOps.read (ARead.binOp rfl rfl rfl rfl) rfl rfl rfl ?_
    refine AOps.nil (hK6 _ _ _ ?_); clear hK6 K6
    refine AWp.keep [1, 26] rfl ?_
    refine AWp.cond rfl (fun hb7 => ?_) (fun hb7 => ?_)
    · have hc7 := hb7; clear hb7; try simp only [decide_eq_true_eq, decide_eq_false_iff_not, Bool.not_eq_true, Bool.not_eq_false, Int.not_lt, Int.not_le, Bool.not_eq_true', Bool.not_eq_false'] at hc7
      have hfin : nodeCheckF n = 130 := by unfold nodeCheckF; rw [if_pos hc4, if_pos (by omega)]
      refine AWp.regK fun K8 hK8 => ?_
      refine AOps.read (ARead.assign rfl rfl) rfl rfl rfl ?_
      refine AOps.nil (hK8 _ _ _ ?_); clear hK8 K8
      refine AWp.keep [2] rfl ?_
      refine AWp.ret ?_
      refine ⟨Or.inr rfl, _, (.tmp _ _ _ _ rfl .nil), ?_⟩
      (try clear hK8 K8); (try clear hK7 K7); (try clear hK6 K6); (try clear hK5 K5); (try clear hK4 K4); (try clear hK3 K3); (try clear hK2 K2); (try clear hK1 K1)
      show packR _ = _
      show vi _ = vi _; rw [hfin]
    · have hc7 := hb7; clear hb7; try simp only [decide_eq_true_eq, decide_eq_false_iff_not, Bool.not_eq_true, Bool.not_eq_false, Int.not_lt, Int.not_le, Bool.not_eq_true', Bool.not_eq_false'] at hc7
      have hfin : nodeCheckF n = checkMapF [] n.pairs := by unfold nodeCheckF; rw [if_pos hc4, if_neg (by omega)]
      refine AWp.skip (hK5 _ _ _ ?_); try clear hK5 K5
      refine AWp.keep [1] rfl ?_
      refine AWp.regK fun K9 hK9 => ?_
      refine AOps.read (ARead.fieldAddr tabOk rfl rfl rfl rfl (by decide) rfl) rfl rfl rfl ?_
      refine AOps.read (ARead.load tabOk rfl rfl rfl (by repeat (first | exact Has.head _ | apply Has.tail)) (by first | decide | omega) rfl rfl) rfl rfl rfl ?_
      refine AOps.pcall (rCheckMap_ok n.pn n.pairs ok1) rfl (by first | exact .inr ⟨rfl, rfl, rfl⟩ | exact .inl rfl) rfl rfl rfl rfl (fun N hN => ?_)
      refine AOps.read (ARead.assign rfl rfl) rfl rfl rfl ?_
      refine AOps.nil (hK9 _ _ _ ?_); clear hK9 K9
      refine AWp.keep [2] rfl ?_
      refine AWp.ret ?_
      refine ⟨Or.inr rfl, _, (.tmp _ _ _ _ rfl .nil), ?_⟩
      (try clear hK9 K9); (try clear hK8 K8); (try clear hK7 K7); (try clear hK6 K6); (try clear hK5 K5); (try clear hK4 K4); (try clear hK3 K3); (try clear hK2 K2); (try clear hK1 K1)
      show packR _ = _
      show vi _ = vi _; rw [hfin]
  · have hc4 := hb4; clear hb4; try simp only [decide_eq_true_eq, decide_eq_false_iff_not, Bool.not_eq_true, Bool.not_eq_false, Int.not_lt, Int.not_le, Bool.not_eq_true', Bool.not_eq_false'] at hc4
    refine AWp.skip (hK2 _ _ _ ?_); try clear hK2 K2
    refine AWp.keep [1] rfl ?_
    refine AWp.seqK fun K10 hK10 => ?_
    refine AWp.regK fun K11 hK11 => ?_
    refine AOps.read (ARead.fieldAddr tabOk rfl rfl rfl rfl (by decide) rfl) rfl rfl rfl ?_
    refine AOps.read (ARead.load tabOk rfl rfl rfl (by repeat (first | exact Has.head _ | apply Has.tail)) (by first | decide | omega) rfl rfl) rfl rfl rfl ?_
    first | refine AOps.read (ARead.lenSl tabOk rfl rfl rfl rfl rfl) rfl rfl rfl ?_ | refine AOps.read (ARead.lenRow tabOk rfl rfl rfl rfl) rfl rfl rfl ?_
    refine AOps.read (ARead.binOp rfl rfl rfl rfl) rfl rfl rfl ?_
    refine AOps.keep [1, 33] rfl ?_
    refine AOps.read (ARead.move rfl rfl) rfl rfl rfl ?_
    refine AOps.gread rfl rfl rfl rfl rfl (.cons 1 _ _ _ rfl (by first | exact .strip _ _ id | (refine .strip _ _ (fun h => ?_); simp_all; done) | exact .same _) .nil) (fun hG => ARead.fieldAddr tabOk rfl rfl rfl rfl (by decide) rfl) rfl rfl ?_
    refine AOps.gread rfl rfl rfl rfl rfl (.cons 35 _ _ _ rfl (by first | exact .strip _ _ id | (refine .strip _ _ (fun h => ?_); simp_all; done) | exact .same _) .nil) (fun hG => ARead.load tabOk rfl rfl rfl (by repeat (first | exact Has.head _ | apply Has.tail)) (by first | decide | omega) rfl rfl) rfl rfl ?_
    first | refine AOps.gread rfl rfl rfl rfl rfl (.cons 36 _ _ _ rfl (by first | exact .strip _ _ id | (refine .strip _ _ (fun h => ?_); simp_all; done) | exact .same _) .nil) (fun hG => ARead.lenSl tabOk rfl rfl rfl rfl rfl) rfl rfl ?_ | refine AOps.gread rfl rfl rfl rfl rfl (.cons 36 _ _ _ rfl (by first | exact .strip _ _ id | (refine .strip _ _ (fun h => ?_); simp_all; done) | exact .same _) .nil) (fun hG => ARead.lenRow tabOk rfl rfl rfl rfl) rfl rfl ?_
    refine AOps.keep [1, 34, 37] rfl ?_
    refine AOps.gread rfl rfl rfl rfl rfl (.cons 37 _ _ _ rfl (by first | exact .strip _ _ id | (refine .strip _ _ (fun h => ?_); simp_all; done) | exact .same _) .nil) (fun hG => ARead.binOp rfl rfl rfl rfl) rfl rfl ?_
    first | refine AOps.read (ARead.pickB rfl rfl rfl (by first | exact .strip _ _ id | (refine .strip _ _ (fun h => ?_); simp_all; done) | exact .same _) rfl (by first | exact .strip _ _ id | (refine .strip _ _ (fun h => ?_); simp_all; done) | exact .same _)) rfl rfl rfl ?_ | refine AOps.read (ARead.pick rfl rfl rfl) rfl rfl rfl ?_
    refine AOps.read (ARead.move rfl rfl) rfl rfl rfl ?_
    refine AOps.gread rfl rfl rfl rfl rfl (.cons 1 _ _ _ rfl (by first | exact .strip _ _ id | (refine .strip _ _ (fun h => ?_); simp_all; done) | exact .same _) .nil) (fun hG => ARead.fieldAddr tabOk rfl rfl rfl rfl (by decide) rfl) rfl rfl ?_
    refine AOps.keep [1, 40, 41] rfl ?_
    refine AOps.gread rfl rfl rfl rfl rfl (.cons 41 _ _ _ rfl (by first | exact .strip _ _ id | (refine .strip _ _ (fun h => ?_); simp_all; done) | exact .same _) .nil) (fun hG => ARead.load tabOk rfl rfl rfl (by repeat (first | exact Has.head _ | apply Has.tail)) (by first | decide | omega) rfl rfl) rfl rfl ?_
    first | refine AOps.gread rfl rfl rfl rfl rfl (.cons 42 _ _ _ rfl (by first | exact .strip _ _ id | (refine .strip _ _ (fun h => ?_); simp_all; done) | exact .same _) .nil) (fun hG => ARead.lenSl tabOk rfl rfl rfl rfl rfl) rfl rfl ?_ | refine AOps.gread rfl rfl rfl rfl rfl (.cons 42 _ _ _ rfl (by first | exact .strip _ _ id | (refine .strip _ _ (fun h => ?_); simp_all; done) | exact .same _) .nil) (fun hG => ARead.lenRow tabOk rfl rfl rfl rfl) rfl rfl ?_
    refine AOps.gread rfl rfl rfl rfl rfl (.cons 43 _ _ _ rfl (by first | exact .strip _ _ id | (refine .strip _ _ (fun h => ?_); simp_all; done) | exact .same _) .nil) (fun hG => ARead.binOp rfl rfl rfl rfl) rfl rfl ?_
    first | refine AOps.read (ARead.pickB rfl rfl rfl (by first | exact .strip _ _ id | (refine .strip _ _ (fun h => ?_); simp_all; done) | exact .same _) rfl (by first | exact .strip _ _ id | (refine .strip _ _ (fun h => ?_); simp_all; done) | exact .same _)) rfl rfl rfl ?_ | refine AOps.read (ARead.pick rfl rfl rfl) rfl rfl rfl ?_
    refine AOps.keep [1, 45] rfl ?_
    refine AOps.read (ARead.move rfl rfl) rfl rfl rfl ?_
    refine AOps.gread rfl rfl rfl rfl rfl (.cons 1 _ _ _ rfl (by first | exact .strip _ _ id | (refine .strip _ _ (fun h => ?_); simp_all; done) | exact .same _) .nil) (fun hG => ARead.fieldAddr tabOk rfl rfl rfl rfl (by decide) rfl) rfl rfl ?_
    refine AOps.gread rfl rfl rfl rfl rfl (.cons 47 _ _ _ rfl (by first | exact .strip _ _ id | (refine .strip _ _ (fun h => ?_); simp_all; done) | exact .same _) .nil) (fun hG => ARead.load tabOk rfl rfl rfl (by repeat (first | exact Has.head _ | apply Has.tail)) (by first | decide | omega) rfl rfl) rfl rfl ?_
    first | refine AOps.gread rfl rfl rfl rfl rfl (.cons 48 _ _ _ rfl (by first | exact .strip _ _ id | (refine .strip _ _ (fun h => ?_); simp_all; done) | exact .same _) .nil) (fun hG => ARead.lenSl tabOk rfl rfl rfl rfl rfl) rfl rfl ?_ | refine AOps.gread rfl rfl rfl rfl rfl (.cons 48 _ _ _ rfl (by first | exact .strip _ _ id | (refine .strip _ _ (fun h => ?_); simp_all; done) | exact .same _) .nil) (fun hG => ARead.lenRow tabOk rfl rfl rfl rfl) rfl rfl ?_
    refine AOps.keep [1, 46, 49] rfl ?_
    refine AOps.gread rfl rfl rfl rfl rfl (.cons 1 _ _ _ rfl (by first | exact .strip _ _ id | (refine .strip _ _ (fun h => ?_); simp_all; done) | exact .same _) .nil) (fun hG => ARead.fieldAddr tabOk rfl rfl rfl rfl (by decide) rfl) rfl rfl ?_
    refine AOps.gread rfl rfl rfl rfl rfl (.cons 50 _ _ _ rfl (by first | exact .strip _ _ id | (refine .strip _ _ (fun h => ?_); simp_all; done) | exact .same _) .nil) (fun hG => ARead.load tabOk rfl rfl rfl (by repeat (first | exact Has.head _ | apply Has.tail)) (by first | decide | omega) rfl rfl) rfl rfl ?_
    first | refine AOps.gread rfl rfl rfl rfl rfl (.cons 51 _ _ _ rfl (by first | exact .strip _ _ id | (refine .strip _ _ (fun h => ?_); simp_all; done) | exact .same _) .nil) (fun hG => ARead.lenSl tabOk rfl rfl rfl rfl rfl) rfl rfl ?_ | refine AOps.gread rfl rfl rfl rfl rfl (.cons 51 _ _ _ rfl (by first | exact .strip _ _ id | (refine .strip _ _ (fun h => ?_); simp_all; done) | exact .same _) .nil) (fun hG => ARead.lenRow tabOk rfl rfl rfl rfl) rfl rfl ?_
    first | refine AOps.gread rfl rfl rfl rfl rfl (.cons 52 _ _ _ rfl (by first | exact .strip _ _ id | (refine .strip _ _ (fun h => ?_); simp_all; done) | exact .same _) .nil) (fun hG => ARead.binW rfl rfl rfl rfl (i64_ok (by first | omega | (simp at hG; omega)) (by first | omega | (simp at hG; omega)))) rfl rfl ?_ | refine AOps.gread rfl rfl rfl rfl rfl (.cons 52 _ _ _ rfl (by first | exact .strip _ _ id | (refine .strip _ _ (fun h => ?_); simp_all; done) | exact .same _) .nil) (fun hG => ARead.binOp rfl rfl rfl rfl) rfl rfl ?_
    refine AOps.keep [1, 46, 49, 53] rfl ?_
    refine AOps.gread rfl rfl rfl rfl rfl (.cons 49 _ _ _ rfl (by first | exact .strip _ _ id | (refine .strip _ _ (fun h => ?_); simp_all; done) | exact .same _) (.cons 53 _ _ _ rfl (by first | exact .strip _ _ id | (refine .strip _ _ (fun h => ?_); simp_all; done) | exact .same _) .nil)) (fun hG => ARead.binOp rfl rfl rfl rfl) rfl rfl ?_
    first | refine AOps.read (ARead.pickB rfl rfl rfl (by first | exact .strip _ _ id | (refine .strip _ _ (fun h => ?_); simp_all; done) | exact .same _) rfl (by first | exact .strip _ _ id | (refine .strip _ _ (fun h => ?_); simp_all; done) | exact .same _)) rfl rfl rfl ?_ | refine AOps.read (ARead.pick rfl rfl rfl) rfl rfl rfl ?_
    refine AOps.read (ARead.move rfl rfl) rfl rfl rfl ?_
    refine AOps.gread rfl rfl rfl rfl rfl (.cons 1 _ _ _ rfl (by first | exact .strip _ _ id | (refine .strip _ _ (fun h => ?_); simp_all; done) | exact .same _) .nil) (fun hG => ARead.fieldAddr tabOk rfl rfl rfl rfl (by decide) rfl) rfl rfl ?_
    refine AOps.keep [1, 56, 57] rfl ?_
    refine AOps.gread rfl rfl rfl rfl rfl (.cons 57 _ _ _ rfl (by first | exact .strip _ _ id | (refine .strip _ _ (fun h => ?_); simp_all; done) | exact .same _) .nil) (fun hG => ARead.load tabOk rfl rfl rfl (by repeat (first | exact Has.head _ | apply Has.tail)) (by first | decide | omega) rfl rfl) rfl rfl ?_
    first | refine AOps.gread rfl rfl rfl rfl rfl (.cons 58 _ _ _ rfl (by first | exact .strip _ _ id | (refine .strip _ _ (fun h => ?_); simp_all; done) | exact .same _) .nil) (fun hG => ARead.lenSl tabOk rfl rfl rfl rfl rfl) rfl rfl ?_ | refine AOps.gread rfl rfl rfl rfl rfl (.cons 58 _ _ _ rfl (by first | exact .strip _ _ id | (refine .strip _ _ (fun h => ?_); simp_all; done) | exact .same _) .nil) (fun hG => ARead.lenRow tabOk rfl rfl rfl rfl) rfl rfl ?_
    refine AOps.gread rfl rfl rfl rfl rfl (.cons 1 _ _ _ rfl (by first | exact .strip _ _ id | (refine .strip _ _ (fun h => ?_); simp_all; done) | exact .same _) .nil) (fun hG => ARead.fieldAddr tabOk rfl rfl rfl rfl (by decide) rfl) rfl rfl ?_
    refine AOps.gread rfl rfl rfl rfl rfl (.cons 60 _ _ _ rfl (by first | exact .strip _ _ id | (refine .strip _ _ (fun h => ?_); simp_all; done) | exact .same _) .nil) (fun hG => ARead.load tabOk rfl rfl rfl (by repeat (first | exact Has.head _ | apply Has.tail)) (by first | decide | omega) rfl rfl) rfl rfl ?_
    refine AOps.keep [1, 56, 59, 61] rfl ?_
    first | refine AOps.gread rfl rfl rfl rfl rfl (.cons 61 _ _ _ rfl (by first | exact .strip _ _ id | (refine .strip _ _ (fun h => ?_); simp_all; done) | exact .same _) .nil) (fun hG => ARead.lenSl tabOk rfl rfl rfl rfl rfl) rfl rfl ?_ | refine AOps.gread rfl rfl rfl rfl rfl (.cons 61 _ _ _ rfl (by first | exact .strip _ _ id | (refine .strip _ _ (fun h => ?_); simp_all; done) | exact .same _) .nil) (fun hG => ARead.lenRow tabOk rfl rfl rfl rfl) rfl rfl ?_
    refine AOps.gread rfl rfl rfl rfl rfl (.cons 59 _ _ _ rfl (by first | exact .strip _ _ id | (refine .strip _ _ (fun h => ?_); simp_all; done) | exact .same _) (.cons 62 _ _ _ rfl (by first | exact .strip _ _ id | (refine .strip _ _ (fun h => ?_); simp_all; done) | exact .same _) .nil)) (fun hG => ARead.binOp rfl rfl rfl rfl) rfl rfl ?_
    first | refine AOps.read (ARead.pickB rfl rfl rfl (by first | exact .strip _ _ id | (refine .strip _ _ (fun h => ?_); simp_all; done) | exact .same _) rfl (by first | exact .strip _ _ id | (refine .strip _ _ (fun h => ?_); simp_all; done) | exact .same _)) rfl rfl rfl ?_ | refine AOps.read (ARead.pick rfl rfl rfl) rfl rfl rfl ?_
    refine AOps.nil (hK11 _ _ _ ?_); clear hK11 K11
    refine AWp.keep [1, 64] rfl ?_
    refine AWp.cond rfl (fun hb12 => ?_) (fun hb12 => ?_)
    · have hc12 := hb12; clear hb12; try simp only [decide_eq_true_eq, decide_eq_false_iff_not, Bool.not_eq_true, Bool.not_eq_false, Int.not_lt, Int.not_le, Bool.not_eq_true', Bool.not_eq_false'] at hc12
      have hbad : nodeBadF n = true := bad_shape hc12
      clear hc12
      have hfin : nodeCheckF n = 130 := by unfold nodeCheckF; rw [if_neg (by simp [hc4]), if_pos hbad]
      refine AWp.regK fun K13 hK13 => ?_
      refine AOps.read (ARead.assign rfl rfl) rfl rfl rfl ?_
      refine AOps.nil (hK13 _ _ _ ?_); clear hK13 K13
      refine AWp.keep [2] rfl ?_
      refine AWp.ret ?_
      refine ⟨Or.inr rfl, _, (.tmp _ _ _ _ rfl .nil), ?_⟩
      (try clear hK13 K13); (try clear hK12 K12); (try clear hK11 K11); (try clear hK10 K10); (try clear hK9 K9); (try clear hK8 K8); (try clear hK7 K7); (try clear hK6 K6); (try clear hK5 K5); (try clear hK4 K4); (try clear hK3 K3); (try clear hK2 K2); (try clear hK1 K1)
      show packR _ = _
      show vi _ = vi _; rw [hfin]
    · have hc12 := hb12; clear hb12; try simp only [decide_eq_true_eq, decide_eq_false_iff_not, Bool.not_eq_true, Bool.not_eq_false, Int.not_lt, Int.not_le, Bool.not_eq_true', Bool.not_eq_false'] at hc12
      have hsh : shapeF n = false := hc12
      clear hc12
      refine AWp.skip (hK10 _ _ _ ?_); try clear hK10 K10
      refine AWp.keep [1] rfl ?_
      refine AWp.seqK fun K14 hK14 => ?_
      refine AWp.regK fun K15 hK15 => ?_
      refine AOps.read (ARead.fieldAddr tabOk rfl rfl rfl rfl (by decide) rfl) rfl rfl rfl ?_
      refine AOps.read (ARead.load tabOk rfl rfl rfl (by repeat (first | exact Has.head _ | apply Has.tail)) (by first | decide | omega) rfl rfl) rfl rfl rfl ?_
      first | refine AOps.read (ARead.lenSl tabOk rfl rfl rfl rfl rfl) rfl rfl rfl ?_ | refine AOps.read (ARead.lenRow tabOk rfl rfl rfl rfl) rfl rfl rfl ?_
      refine AOps.read (ARead.move rfl rfl) rfl rfl rfl ?_
      refine AOps.nil (hK15 _ _ _ ?_); clear hK15 K15
      refine AWp.keep [1, 66, 67, 68] rfl ?_
      refine AWp.block ?_
      refine AWp.loopP (α := Nat) [1, 66, 67, 68] (fun x N => [(1, .ptr N0 5 0 0), (66, ints n.kn n.kids), (67, vi n.kids.length), (68, vi x)]) (fun x N => [(N0, vr (ndC n))]) (fun x N => x ≤ n.kids.length ∧ ∀ j, j < x → 1 ≤ n.kids.getD j 0 ∧ n.kids.getD j 0 ≤ 2147483647) (fun x => n.kids.length - x) (0) rfl (.cons _ _ _ _ _ _ (by repeat (first | exact Has.head _ | apply Has.tail)) (.nil _)) (⟨Nat.zero_le _, fun j h => absurd h (Nat.not_lt_zero _)⟩) (fun x N hN hg K17 hK17 => ?_)
      obtain ⟨hg1, hg2⟩ := hg
      refine AWp.regK fun K18 hK18 => ?_
      refine AOps.read (ARead.binOp rfl rfl rfl rfl) rfl rfl rfl ?_
      refine AOps.nil (hK18 _ _ _ ?_); clear hK18 K18
      refine AWp.keep [1, 66, 67, 68, 69] rfl ?_
      refine AWp.seqK fun K19 hK19 => ?_
      refine AWp.cond rfl (fun hb20 => ?_) (fun hb20 => ?_)
      · have hc20 := hb20; clear hb20; try simp only [decide_eq_true_eq, decide_eq_false_iff_not, Bool.not_eq_true, Bool.not_eq_false, Int.not_lt, Int.not_le, Bool.not_eq_true', Bool.not_eq_false'] at hc20
        have hlt : x < n.kids.length := by omega
        refine AWp.skip (hK19 _ _ _ ?_); try clear hK19 K19
        refine AWp.keep [1, 66, 67, 68] rfl ?_
        refine AWp.seqK fun K21 hK21 => ?_
        refine AWp.block ?_
        refine AWp.regK fun K23 hK23 => ?_
        first | refine AOps.read (ARead.indexAddrF tabOk rfl rfl rfl rfl rfl rfl rfl (by omega) (by omega)) rfl rfl rfl ?_ | refine AOps.read (ARead.indexAddr tabOk rfl rfl rfl rfl rfl rfl rfl (by omega) (by omega)) rfl rfl rfl ?_ | refine AOps.read (ARead.indexAddrA tabOk rfl rfl rfl rfl rfl rfl rfl (by omega) (by omega)) rfl rfl rfl ?_
        first | refine AOps.read (ARead.loadF tabOk rfl rfl rfl rfl) rfl rfl rfl ?_ | refine AOps.read (ARead.load tabOk rfl rfl rfl (by repeat (first | exact Has.head _ | apply Has.tail)) (by first | decide | omega) rfl rfl) rfl rfl rfl ?_ | refine AOps.read (ARead.loadC tabOk rfl rfl rfl (by repeat (first | exact Has.head _ | apply Has.tail)) rfl rfl) rfl rfl rfl ?_
        refine AOps.read (ARead.assign rfl rfl) rfl rfl rfl ?_
        refine AOps.nil (hK23 _ _ _ ?_); clear hK23 K23
        refine AWp.keep [1, 4, 66, 67, 68] rfl ?_
        refine AWp.regK fun K24 hK24 => ?_
        refine AOps.read (ARead.move rfl rfl) rfl rfl rfl ?_
        refine AOps.read (ARead.binOp rfl rfl rfl rfl) rfl rfl rfl ?_
        refine AOps.read (ARead.move rfl rfl) rfl rfl rfl ?_
        refine AOps.gread rfl rfl rfl rfl rfl (.cons 4 _ _ _ rfl (by first | exact .strip _ _ id | (refine .strip _ _ (fun h => ?_); simp_all; done) | exact .same _) .nil) (fun hG => ARead.move rfl rfl) rfl rfl ?_
        refine AOps.keep [1, 66, 67, 68, 74, 75] rfl ?_
        refine AOps.gread rfl rfl rfl rfl rfl (.cons 75 _ _ _ rfl (by first | exact .strip _ _ id | (refine .strip _ _ (fun h => ?_); simp_all; done) | exact .same _) .nil) (fun hG => ARead.binOp rfl rfl rfl rfl) rfl rfl ?_
        first | refine AOps.read (ARead.pickB rfl rfl rfl (by first | exact .strip _ _ id | (refine .strip _ _ (fun h => ?_); simp_all; done) | exact .same _) rfl (by first | exact .strip _ _ id | (refine .strip _ _ (fun h => ?_); simp_all; done) | exact .same _)) rfl rfl rfl ?_ | refine AOps.read (ARead.pick rfl rfl rfl) rfl rfl rfl ?_
        refine AOps.nil (hK24 _ _ _ ?_); clear hK24 K24
        refine AWp.keep [1, 66, 67, 68, 77] rfl ?_
        refine AWp.cond rfl (fun hb25 => ?_) (fun hb25 => ?_)
        · have hc25 := hb25; clear hb25; try simp only [decide_eq_true_eq, decide_eq_false_iff_not, Bool.not_eq_true, Bool.not_eq_false, Int.not_lt, Int.not_le, Bool.not_eq_true', Bool.not_eq_false'] at hc25
          simp only [Int.toNat_natCast] at hc25
          have hbad : nodeBadF n = true := bad_kid hsh hlt hc25
          have hfin : nodeCheckF n = 130 := by unfold nodeCheckF; rw [if_neg (by simp [hc4]), if_pos hbad]
          refine AWp.regK fun K26 hK26 => ?_
          refine AOps.read (ARead.assign rfl rfl) rfl rfl rfl ?_
          refine AOps.nil (hK26 _ _ _ ?_); clear hK26 K26
          refine AWp.keep [2] rfl ?_
          refine AWp.ret ?_
          refine ⟨Or.inr rfl, _, (.tmp _ _ _ _ rfl .nil), ?_⟩
          (try clear hK26 K26); (try clear hK25 K25); (try clear hK24 K24); (try clear hK23 K23); (try clear hK22 K22); (try clear hK21 K21); (try clear hK20 K20); (try clear hK19 K19); (try clear hK18 K18); (try clear hK17 K17); (try clear hK16 K16); (try clear hK15 K15); (try clear hK14 K14); (try clear hK13 K13); (try clear hK12 K12); (try clear hK11 K11); (try clear hK10 K10); (try clear hK9 K9); (try clear hK8 K8); (try clear hK7 K7); (try clear hK6 K6); (try clear hK5 K5); (try clear hK4 K4); (try clear hK3 K3); (try clear hK2 K2); (try clear hK1 K1)
          show packR _ = _
          show vi _ = vi _; rw [hfin]
        · have hc25 := hb25; clear hb25; try simp only [decide_eq_true_eq, decide_eq_false_iff_not, Bool.not_eq_true, Bool.not_eq_false, Int.not_lt, Int.not_le, Bool.not_eq_true', Bool.not_eq_false'] at hc25
          simp only [Int.toNat_natCast] at hc25
          have kstep := kid_step hc25
          clear hc25
          refine AWp.skip (hK21 _ _ _ ?_); try clear hK21 K21
          refine AWp.keep [1, 66, 67, 68] rfl ?_
          refine AWp.region ?_
          first | refine AOps.read (ARead.binW rfl rfl rfl rfl (i64_ok (by omega) (by omega))) rfl rfl rfl ?_ | refine AOps.read (ARead.binOp rfl rfl rfl rfl) rfl rfl rfl ?_
          refine AOps.read (ARead.move rfl rfl) rfl rfl rfl ?_
          (try clear hK26 K26); (try clear hK25 K25); (try clear hK24 K24); (try clear hK23 K23); (try clear hK22 K22); (try clear hK21 K21); (try clear hK20 K20); (try clear hK19 K19); (try clear hK18 K18); (try clear hK16 K16); (try clear hK15 K15); (try clear hK14 K14); (try clear hK13 K13); (try clear hK12 K12); (try clear hK11 K11); (try clear hK10 K10); (try clear hK9 K9); (try clear hK8 K8); (try clear hK7 K7); (try clear hK6 K6); (try clear hK5 K5); (try clear hK4 K4); (try clear hK3 K3); (try clear hK2 K2); (try clear hK1 K1)
          refine AOps.nil (hK17 _ _ _ (x + 1) _ (by rfl) (.cons _ _ _ _ _ _ (by repeat (first | exact Has.head _ | apply Has.tail)) (.nil _)) (⟨by omega, fun j hj => if h : j < x then hg2 j h else (show j = x by omega) ▸ kstep⟩) (by omega))
      · have hc20 := hb20; clear hb20; try simp only [decide_eq_true_eq, decide_eq_false_iff_not, Bool.not_eq_true, Bool.not_eq_false, Int.not_lt, Int.not_le, Bool.not_eq_true', Bool.not_eq_false'] at hc20
        have hbad : nodeBadF n = false := good_kids hsh (fun j hj => hg2 j (by omega))
        obtain ⟨b1, b2, b3, b4, b5, b6, b7⟩ := nodeBad_false hbad
        clear hg2
        refine AWp.exit (Or.inl ⟨rfl, (hK14 _ _ _ ?_)⟩); try clear hK14 K14
        refine AWp.keep [1] rfl ?_
        refine AWp.seqK fun K27 hK27 => ?_
        refine AWp.regK fun K28 hK28 => ?_
        refine AOps.read (ARead.fieldAddr tabOk rfl rfl rfl rfl (by decide) rfl) rfl rfl rfl ?_
        refine AOps.read (ARead.load tabOk rfl rfl rfl (by repeat (first | exact Has.head _ | apply Has.tail)) (by first | decide | omega) rfl rfl) rfl rfl rfl ?_
        refine AOps.pcall (rPivots_ok n.vn n.pivots ok3) rfl (by first | exact .inr ⟨rfl, rfl, rfl⟩ | exact .inl rfl) rfl rfl rfl rfl (fun N hN => ?_)
        refine AOps.read (ARead.binOp rfl rfl rfl rfl) rfl rfl rfl ?_
        refine AOps.nil (hK28 _ _ _ ?_); clear hK28 K28
        refine AWp.keep [1, 82] rfl ?_
        refine AWp.cond rfl (fun hb29 => ?_) (fun hb29 => ?_)
        · have hc29 := hb29; clear hb29; try simp only [decide_eq_true_eq, decide_eq_false_iff_not, Bool.not_eq_true, Bool.not_eq_false, Int.not_lt, Int.not_le, Bool.not_eq_true', Bool.not_eq_false'] at hc29
          have hp : pivOkF none n.pivots = false := by cases h : pivOkF none n.pivots <;> simp_all
          have hfin : nodeCheckF n = 130 := by unfold nodeCheckF; rw [if_neg (by simp [hc4]), if_neg (by simp [hbad]), if_pos hp]
          refine AWp.regK fun K30 hK30 => ?_
          refine AOps.read (ARead.assign rfl rfl) rfl rfl rfl ?_
          refine AOps.nil (hK30 _ _ _ ?_); clear hK30 K30
          refine AWp.keep [2] rfl ?_
          refine AWp.ret ?_
          refine ⟨Or.inr rfl, _, (.tmp _ _ _ _ rfl .nil), ?_⟩
          (try clear hK30 K30); (try clear hK29 K29); (try clear hK28 K28); (try clear hK27 K27); (try clear hK26 K26); (try clear hK25 K25); (try clear hK24 K24); (try clear hK23 K23); (try clear hK22 K22); (try clear hK21 K21); (try clear hK20 K20); (try clear hK19 K19); (try clear hK18 K18); (try clear hK17 K17); (try clear hK16 K16); (try clear hK15 K15); (try clear hK14 K14); (try clear hK13 K13); (try clear hK12 K12); (try clear hK11 K11); (try clear hK10 K10); (try clear hK9 K9); (try clear hK8 K8); (try clear hK7 K7); (try clear hK6 K6); (try clear hK5 K5); (try clear hK4 K4); (try clear hK3 K3); (try clear hK2 K2); (try clear hK1 K1)
          show packR _ = _
          show vi _ = vi _; rw [hfin]
        · have hc29 := hb29; clear hb29; try simp only [decide_eq_true_eq, decide_eq_false_iff_not, Bool.not_eq_true, Bool.not_eq_false, Int.not_lt, Int.not_le, Bool.not_eq_true', Bool.not_eq_false'] at hc29
          have hp : pivOkF none n.pivots = true := by cases h : pivOkF none n.pivots <;> simp_all
          refine AWp.skip (hK27 _ _ _ ?_); try clear hK27 K27
          refine AWp.keep [1] rfl ?_
          refine AWp.seqK fun K31 hK31 => ?_
          refine AWp.regK fun K32 hK32 => ?_
          refine AOps.read (ARead.fieldAddr tabOk rfl rfl rfl rfl (by decide) rfl) rfl rfl rfl ?_
          refine AOps.read (ARead.load tabOk rfl rfl rfl (by repeat (first | exact Has.head _ | apply Has.tail)) (by first | decide | omega) rfl rfl) rfl rfl rfl ?_
          first | refine AOps.read (ARead.lenSl tabOk rfl rfl rfl rfl rfl) rfl rfl rfl ?_ | refine AOps.read (ARead.lenRow tabOk rfl rfl rfl rfl) rfl rfl rfl ?_
          refine AOps.read (ARead.move rfl rfl) rfl rfl rfl ?_
          refine AOps.nil (hK32 _ _ _ ?_); clear hK32 K32
          refine AWp.keep [1, 84, 85, 86] rfl ?_
          refine AWp.block ?_
          refine AWp.loopP (α := Nat) [1, 84, 85, 86] (fun x N => [(1, .ptr N0 5 0 0), (84, bfs n.bn n.bufs), (85, vi n.bufs.length), (86, vi x)]) (fun x N => [(N0, vr (ndC n))]) (fun x N => x ≤ n.bufs.length ∧ bufsErrF (n.bufs.drop x) = bufsErrF n.bufs) (fun x => n.bufs.length - x) (0) rfl (.cons _ _ _ _ _ _ (by repeat (first | exact Has.head _ | apply Has.tail)) (.nil _)) (⟨Nat.zero_le _, rfl⟩) (fun x N hN hg K34 hK34 => ?_)
          obtain ⟨hg1, hg2⟩ := hg
          refine AWp.regK fun K35 hK35 => ?_
          refine AOps.read (ARead.binOp rfl rfl rfl rfl) rfl rfl rfl ?_
          refine AOps.nil (hK35 _ _ _ ?_); clear hK35 K35
          refine AWp.keep [1, 84, 85, 86, 87] rfl ?_
          refine AWp.seqK fun K36 hK36 => ?_
          refine AWp.cond rfl (fun hb37 => ?_) (fun hb37 => ?_)
          · have hc37 := hb37; clear hb37; try simp only [decide_eq_true_eq, decide_eq_false_iff_not, Bool.not_eq_true, Bool.not_eq_false, Int.not_lt, Int.not_le, Bool.not_eq_true', Bool.not_eq_false'] at hc37
            have hlt : x < n.bufs.length := by omega
            rw [drop_getD bf0 hlt] at hg2
            simp only [bufsErrF] at hg2
            refine AWp.skip (hK36 _ _ _ ?_); try clear hK36 K36
            refine AWp.keep [1, 84, 85, 86] rfl ?_
            refine AWp.seqK fun K38 hK38 => ?_
            refine AWp.block ?_
            refine AWp.regK fun K40 hK40 => ?_
            first | refine AOps.read (ARead.indexAddrF tabOk rfl rfl rfl rfl rfl rfl rfl (by omega) (by omega)) rfl rfl rfl ?_ | refine AOps.read (ARead.indexAddr tabOk rfl rfl rfl rfl rfl rfl rfl (by omega) (by omega)) rfl rfl rfl ?_ | refine AOps.read (ARead.indexAddrA tabOk rfl rfl rfl rfl rfl rfl rfl (by omega) (by omega)) rfl rfl rfl ?_
            first | refine AOps.read (ARead.loadF tabOk rfl rfl rfl rfl) rfl rfl rfl ?_ | refine AOps.read (ARead.load tabOk rfl rfl rfl (by repeat (first | exact Has.head _ | apply Has.tail)) (by first | decide | omega) rfl rfl) rfl rfl rfl ?_ | refine AOps.read (ARead.loadC tabOk rfl rfl rfl (by repeat (first | exact Has.head _ | apply Has.tail)) rfl rfl) rfl rfl rfl ?_
            refine AOps.read (ARead.assign rfl rfl) rfl rfl rfl ?_
            refine AOps.nil (hK40 _ _ _ ?_); clear hK40 K40
            refine AWp.keep [1, 6, 84, 85, 86] rfl ?_
            refine AWp.regK fun K41 hK41 => ?_
            refine AOps.read (ARead.move rfl rfl) rfl rfl rfl ?_
            refine AOps.pcall (rBufCheck_ok (n.bufs.getD x bf0).nil (n.bufs.getD x bf0).l (ok5 _ (getD_mem hlt))) rfl (by first | exact .inr ⟨rfl, rfl, rfl⟩ | exact .inl rfl) rfl rfl rfl rfl (fun N hN => ?_)
            refine AOps.read (ARead.assign rfl rfl) rfl rfl rfl ?_
            refine AOps.nil (hK41 _ _ _ ?_); clear hK41 K41
            refine AWp.keep [1, 7, 84, 85, 86] rfl ?_
            refine AWp.regK fun K42 hK42 => ?_
            refine AOps.read (ARead.move rfl rfl) rfl rfl rfl ?_
            refine AOps.read (ARead.binOp rfl rfl rfl rfl) rfl rfl rfl ?_
            refine AOps.nil (hK42 _ _ _ ?_); clear hK42 K42
            refine AWp.keep [1, 7, 84, 85, 86, 93] rfl ?_
            refine AWp.cond rfl (fun hb43 => ?_) (fun hb43 => ?_)
            · have hc43 := hb43; clear hb43; try simp only [decide_eq_true_eq, decide_eq_false_iff_not, Bool.not_eq_true, Bool.not_eq_false, Int.not_lt, Int.not_le, Bool.not_eq_true', Bool.not_eq_false'] at hc43
              have hfin : nodeCheckF n = bufCheckF none (n.bufs.getD x bf0).l := by rw [if_pos hc43] at hg2; unfold nodeCheckF; rw [if_neg (by simp [hc4]), if_neg (by simp [hbad]), if_neg (by simp [hp]), ← hg2, if_pos hc43]
              refine AWp.regK fun K44 hK44 => ?_
              refine AOps.read (ARead.move rfl rfl) rfl rfl rfl ?_
              refine AOps.read (ARead.assign rfl rfl) rfl rfl rfl ?_
              refine AOps.nil (hK44 _ _ _ ?_); clear hK44 K44
              refine AWp.keep [2] rfl ?_
              refine AWp.ret ?_
              refine ⟨Or.inr rfl, _, (.tmp _ _ _ _ rfl .nil), ?_⟩
              (try clear hK44 K44); (try clear hK43 K43); (try clear hK42 K42); (try clear hK41 K41); (try clear hK40 K40); (try clear hK39 K39); (try clear hK38 K38); (try clear hK37 K37); (try clear hK36 K36); (try clear hK35 K35); (try clear hK34 K34); (try clear hK33 K33); (try clear hK32 K32); (try clear hK31 K31); (try clear hK30 K30); (try clear hK29 K29); (try clear hK28 K28); (try clear hK27 K27); (try clear hK26 K26); (try clear hK25 K25); (try clear hK24 K24); (try clear hK23 K23); (try clear hK22 K22); (try clear hK21 K21); (try clear hK20 K20); (try clear hK19 K19); (try clear hK18 K18); (try clear hK17 K17); (try clear hK16 K16); (try clear hK15 K15); (try clear hK14 K14); (try clear hK13 K13); (try clear hK12 K12); (try clear hK11 K11); (try clear hK10 K10); (try clear hK9 K9); (try clear hK8 K8); (try clear hK7 K7); (try clear hK6 K6); (try clear hK5 K5); (try clear hK4 K4); (try clear hK3 K3); (try clear hK2 K2); (try clear hK1 K1)
              show packR _ = _
              show vi _ = vi _; rw [hfin]
            · have hc43 := hb43; clear hb43; try simp only [decide_eq_true_eq, decide_eq_false_iff_not, Bool.not_eq_true, Bool.not_eq_false, Int.not_lt, Int.not_le, Bool.not_eq_true', Bool.not_eq_false'] at hc43
              refine AWp.skip (hK38 _ _ _ ?_); try clear hK38 K38
              refine AWp.keep [1, 84, 85, 86] rfl ?_
              refine AWp.region ?_
              first | refine AOps.read (ARead.binW rfl rfl rfl rfl (i64_ok (by omega) (by omega))) rfl rfl rfl ?_ | refine AOps.read (ARead.binOp rfl rfl rfl rfl) rfl rfl rfl ?_
              refine AOps.read (ARead.move rfl rfl) rfl rfl rfl ?_
              (try clear hK44 K44); (try clear hK43 K43); (try clear hK42 K42); (try clear hK41 K41); (try clear hK40 K40); (try clear hK39 K39); (try clear hK38 K38); (try clear hK37 K37); (try clear hK36 K36); (try clear hK35 K35); (try clear hK33 K33); (try clear hK32 K32); (try clear hK31 K31); (try clear hK30 K30); (try clear hK29 K29); (try clear hK28 K28); (try clear hK27 K27); (try clear hK26 K26); (try clear hK25 K25); (try clear hK24 K24); (try clear hK23 K23); (try clear hK22 K22); (try clear hK21 K21); (try clear hK20 K20); (try clear hK19 K19); (try clear hK18 K18); (try clear hK17 K17); (try clear hK16 K16); (try clear hK15 K15); (try clear hK14 K14); (try clear hK13 K13); (try clear hK12 K12); (try clear hK11 K11); (try clear hK10 K10); (try clear hK9 K9); (try clear hK8 K8); (try clear hK7 K7); (try clear hK6 K6); (try clear hK5 K5); (try clear hK4 K4); (try clear hK3 K3); (try clear hK2 K2); (try clear hK1 K1)
              refine AOps.nil (hK34 _ _ _ (x + 1) _ (by rfl) (.cons _ _ _ _ _ _ (by repeat (first | exact Has.head _ | apply Has.tail)) (.nil _)) (by refine ⟨by omega, ?_⟩; rw [← hg2, if_neg (by simpa using hc43)]) (by omega))
          · have hc37 := hb37; clear hb37; try simp only [decide_eq_true_eq, decide_eq_false_iff_not, Bool.not_eq_true, Bool.not_eq_false, Int.not_lt, Int.not_le, Bool.not_eq_true', Bool.not_eq_false'] at hc37
            rw [List.drop_of_length_le (by omega)] at hg2
            simp only [bufsErrF] at hg2
            have hbe : bufsErrF n.bufs = 0 := hg2.symm
            clear hg2 hg1
            refine AWp.exit (Or.inl ⟨rfl, (hK31 _ _ _ ?_)⟩); try clear hK31 K31
            refine AWp.keep [1] rfl ?_
            refine AWp.seqK fun K45 hK45 => ?_
            refine AWp.regK fun K46 hK46 => ?_
            refine AOps.read (ARead.fieldAddr tabOk rfl rfl rfl rfl (by decide) rfl) rfl rfl rfl ?_
            refine AOps.read (ARead.load tabOk rfl rfl rfl (by repeat (first | exact Has.head _ | apply Has.tail)) (by first | decide | omega) rfl rfl) rfl rfl rfl ?_
            first | refine AOps.read (ARead.lenSl tabOk rfl rfl rfl rfl rfl) rfl rfl rfl ?_ | refine AOps.read (ARead.lenRow tabOk rfl rfl rfl rfl) rfl rfl rfl ?_
            refine AOps.read (ARead.move rfl rfl) rfl rfl rfl ?_
            refine AOps.nil (hK46 _ _ _ ?_); clear hK46 K46
            refine AWp.keep [1, 97, 98, 99] rfl ?_
            refine AWp.block ?_
            refine AWp.loopP (α := Nat) [1, 97, 98, 99] (fun x N => [(1, .ptr N0 5 0 0), (97, bfs n.bn n.bufs), (98, vi n.bufs.length), (99, vi x)]) (fun x N => [(N0, vr (ndC n))]) (fun x N => x ≤ n.bufs.length ∧ anyOutF n.pivots x (n.bufs.drop x) = anyOutF n.pivots 0 n.bufs) (fun x => n.bufs.length - x) (0) rfl (.cons _ _ _ _ _ _ (by repeat (first | exact Has.head _ | apply Has.tail)) (.nil _)) (⟨Nat.zero_le _, rfl⟩) (fun x N hN hg K48 hK48 => ?_)
            obtain ⟨hg1, hg2⟩ := hg
            refine AWp.regK fun K49 hK49 => ?_
            refine AOps.read (ARead.binOp rfl rfl rfl rfl) rfl rfl rfl ?_
            refine AOps.nil (hK49 _ _ _ ?_); clear hK49 K49
            refine AWp.keep [1, 97, 98, 99, 100] rfl ?_
            refine AWp.seqK fun K50 hK50 => ?_
            refine AWp.cond rfl (fun hb51 => ?_) (fun hb51 => ?_)
            · have hc51 := hb51; clear hb51; try simp only [decide_eq_true_eq, decide_eq_false_iff_not, Bool.not_eq_true, Bool.not_eq_false, Int.not_lt, Int.not_le, Bool.not_eq_true', Bool.not_eq_false'] at hc51
              have hlt : x < n.bufs.length := by omega
              have hx1 : (x : Int) ≤ n.pivots.length := by omega
              rw [drop_getD bf0 hlt] at hg2
              simp only [anyOutF] at hg2
              refine AWp.skip (hK50 _ _ _ ?_); try clear hK50 K50
              refine AWp.keep [1, 97, 98, 99] rfl ?_
              refine AWp.seqK fun K52 hK52 => ?_
              refine AWp.block ?_
              refine AWp.regK fun K54 hK54 => ?_
              refine AOps.read (ARead.move rfl rfl) rfl rfl rfl ?_
              first | refine AOps.read (ARead.indexAddrF tabOk rfl rfl rfl rfl rfl rfl rfl (by omega) (by omega)) rfl rfl rfl ?_ | refine AOps.read (ARead.indexAddr tabOk rfl rfl rfl rfl rfl rfl rfl (by omega) (by omega)) rfl rfl rfl ?_ | refine AOps.read (ARead.indexAddrA tabOk rfl rfl rfl rfl rfl rfl rfl (by omega) (by omega)) rfl rfl rfl ?_
              first | refine AOps.read (ARead.loadF tabOk rfl rfl rfl rfl) rfl rfl rfl ?_ | refine AOps.read (ARead.load tabOk rfl rfl rfl (by repeat (first | exact Has.head _ | apply Has.tail)) (by first | decide | omega) rfl rfl) rfl rfl rfl ?_ | refine AOps.read (ARead.loadC tabOk rfl rfl rfl (by repeat (first | exact Has.head _ | apply Has.tail)) rfl rfl) rfl rfl rfl ?_
              refine AOps.read (ARead.assign rfl rfl) rfl rfl rfl ?_
              refine AOps.keep [1, 8, 97, 98, 99, 103] rfl ?_
              refine AOps.read (ARead.assign rfl rfl) rfl rfl rfl ?_
              refine AOps.nil (hK54 _ _ _ ?_); clear hK54 K54
              refine AWp.keep [1, 8, 9, 97, 98, 99] rfl ?_
              refine AWp.regK fun K55 hK55 => ?_
              refine AOps.read (ARead.fieldAddr tabOk rfl rfl rfl rfl (by decide) rfl) rfl rfl rfl ?_
              refine AOps.read (ARead.load tabOk rfl rfl rfl (by repeat (first | exact Has.head _ | apply Has.tail)) (by first | decide | omega) rfl rfl) rfl rfl rfl ?_
              refine AOps.read (ARead.move rfl rfl) rfl rfl rfl ?_
              refine AOps.pcall (rRange_ok n.vn n.pivots x (by omega) (by omega) ok3) rfl (.inr ⟨rfl, rfl, rfl⟩) rfl rfl rfl rfl (fun NR hNR => ?_)
              refine AOps.keep [1, 9, 97, 98, 99, 107] rfl ?_
              refine AOps.op1 (AOp.alloc tabOk rfl rfl rfl) rfl rfl rfl ?_
              first | refine AOps.op10 (AOp.storeC tabOk rfl rfl rfl rfl (by repeat (first | exact Has.head _ | apply Has.tail)) rfl (Nat.le_of_ble_eq_true rfl) rfl) rfl rfl ?_ | refine AOps.op10 (AOp.store tabOk rfl rfl rfl rfl (by repeat (first | exact Has.head _ | apply Has.tail)) (by first | decide | omega) rfl (by decide) rfl) rfl rfl ?_
              refine AOps.nil (hK55 _ _ _ ?_); clear hK55 K55
              refine AWp.keep [1, 9, 10, 97, 98, 99] rfl ?_
              refine AWp.regK fun K56 hK56 => ?_
              refine AOps.read (ARead.move rfl rfl) rfl rfl rfl ?_
              first | refine AOps.read (ARead.lenSl tabOk rfl rfl rfl rfl rfl) rfl rfl rfl ?_ | refine AOps.read (ARead.lenRow tabOk rfl rfl rfl rfl) rfl rfl rfl ?_
              refine AOps.read (ARead.move rfl rfl) rfl rfl rfl ?_
              refine AOps.nil (hK56 _ _ _ ?_); clear hK56 K56
              refine AWp.keep [1, 10, 97, 98, 99, 108, 109, 110] rfl ?_
              refine AWp.block ?_
              refine AWp.loopP (α := Nat) [1, 10, 97, 98, 99, 108, 109, 110] (fun y N => [(1, .ptr N0 5 0 0), (10, .ptr NR 2 0 0), (97, bfs n.bn n.bufs), (98, vi n.bufs.length), (99, vi x), (108, ens (n.bufs.getD x bf0).nil (n.bufs.getD x bf0).l), (109, vi (n.bufs.getD x bf0).l.length), (110, vi y)]) (fun y N => [(NR, vr [vs (boundLo n.pivots x), vs (boundHi n.pivots x)]), (N0, vr (ndC n))]) (fun y N => y ≤ (n.bufs.getD x bf0).l.length ∧ ((n.bufs.getD x bf0).l.drop y).any (fun x_1 => !(withinF (boundLo n.pivots x) (boundHi n.pivots x) x_1.op)) = outF n.pivots x (n.bufs.getD x bf0)) (fun y => (n.bufs.getD x bf0).l.length - y) (0) rfl (.cons _ _ _ _ _ _ (by repeat (first | exact Has.head _ | apply Has.tail)) (.cons _ _ _ _ _ _ (by repeat (first | exact Has.head _ | apply Has.tail)) (.nil _))) (⟨Nat.zero_le _, rfl⟩) (fun y N hN hg K58 hK58 => ?_)
              obtain ⟨hy1, hy2⟩ := hg
              have hbl := ok5 _ (getD_mem (d := bf0) hlt)
              refine AWp.regK fun K59 hK59 => ?_
              refine AOps.read (ARead.binOp rfl rfl rfl rfl) rfl rfl rfl ?_
              refine AOps.nil (hK59 _ _ _ ?_); clear hK59 K59
              refine AWp.keep [1, 10, 97, 98, 99, 108, 109, 110, 111] rfl ?_
              refine AWp.seqK fun K60 hK60 => ?_
              refine AWp.cond rfl (fun hb61 => ?_) (fun hb61 => ?_)
              · have hc61 := hb61; clear hb61; try simp only [decide_eq_true_eq, decide_eq_false_iff_not, Bool.not_eq_true, Bool.not_eq_false, Int.not_lt, Int.not_le, Bool.not_eq_true', Bool.not_eq_false'] at hc61
                have hly : y < (n.bufs.getD x bf0).l.length := by omega
                rw [drop_getD en0 hly] at hy2
                refine AWp.skip (hK60 _ _ _ ?_); try clear hK60 K60
                refine AWp.keep [1, 10, 97, 98, 99, 108, 109, 110] rfl ?_
                refine AWp.seqK fun K62 hK62 => ?_
                refine AWp.block ?_
                refine AWp.regK fun K64 hK64 => ?_
                first | refine AOps.read (ARead.indexAddrF tabOk rfl rfl rfl rfl rfl rfl rfl (by omega) (by omega)) rfl rfl rfl ?_ | refine AOps.read (ARead.indexAddr tabOk rfl rfl rfl rfl rfl rfl rfl (by omega) (by omega)) rfl rfl rfl ?_ | refine AOps.read (ARead.indexAddrA tabOk rfl rfl rfl rfl rfl rfl rfl (by omega) (by omega)) rfl rfl rfl ?_
                first | refine AOps.read (ARead.loadF tabOk rfl rfl rfl rfl) rfl rfl rfl ?_ | refine AOps.read (ARead.load tabOk rfl rfl rfl (by repeat (first | exact Has.head _ | apply Has.tail)) (by first | decide | omega) rfl rfl) rfl rfl rfl ?_ | refine AOps.read (ARead.loadC tabOk rfl rfl rfl (by repeat (first | exact Has.head _ | apply Has.tail)) rfl rfl) rfl rfl rfl ?_
                refine AOps.op1 (AOp.alloc tabOk rfl rfl rfl) rfl rfl rfl ?_
                first | refine AOps.op10 (AOp.storeC tabOk rfl rfl rfl rfl (by repeat (first | exact Has.head _ | apply Has.tail)) rfl (Nat.le_of_ble_eq_true rfl) rfl) rfl rfl ?_ | refine AOps.op10 (AOp.store tabOk rfl rfl rfl rfl (by repeat (first | exact Has.head _ | apply Has.tail)) (by first | decide | omega) rfl (by decide) rfl) rfl rfl ?_
                refine AOps.nil (hK64 _ _ _ ?_); clear hK64 K64
                refine AWp.keep [1, 10, 12, 97, 98, 99, 108, 109, 110] rfl ?_
                refine AWp.regK fun K65 hK65 => ?_
                refine AOps.read (ARead.fieldAddr tabOk rfl rfl rfl rfl (by decide) rfl) rfl rfl rfl ?_
                refine AOps.read (ARead.fieldAddr tabOk rfl rfl rfl rfl (by decide) rfl) rfl rfl rfl ?_
                refine AOps.read (ARead.load tabOk rfl rfl rfl (by repeat (first | exact Has.head _ | apply Has.tail)) (by first | decide | omega) rfl rfl) rfl rfl rfl ?_
                refine AOps.read (ARead.binOp rfl rfl rfl rfl) rfl rfl rfl ?_
                refine AOps.keep [1, 10, 12, 97, 98, 99, 108, 109, 110, 117] rfl ?_
                refine AOps.read (ARead.move rfl rfl) rfl rfl rfl ?_
                refine AOps.gread rfl rfl rfl rfl rfl (.cons 10 _ _ _ rfl (by first | exact .strip _ _ id | (refine .strip _ _ (fun h => ?_); simp_all; done) | exact .same _) .nil) (fun hG => ARead.load tabOk rfl rfl rfl (by repeat (first | exact Has.head _ | apply Has.tail)) (by first | decide | omega) rfl rfl) rfl rfl ?_
                refine AOps.gread rfl rfl rfl rfl rfl (.cons 12 _ _ _ rfl (by first | exact .strip _ _ id | (refine .strip _ _ (fun h => ?_); simp_all; done) | exact .same _) .nil) (fun hG => ARead.fieldAddr tabOk rfl rfl rfl rfl (by decide) rfl) rfl rfl ?_
                refine AOps.gread rfl rfl rfl rfl rfl (.cons 120 _ _ _ rfl (by first | exact .strip _ _ id | (refine .strip _ _ (fun h => ?_); simp_all; done) | exact .same _) .nil) (fun hG => ARead.fieldAddr tabOk rfl rfl rfl rfl (by decide) rfl) rfl rfl ?_
                refine AOps.keep [1, 10, 12, 97, 98, 99, 108, 109, 110, 118, 119, 121] rfl ?_
                refine AOps.gread rfl rfl rfl rfl rfl (.cons 121 _ _ _ rfl (by first | exact .strip _ _ id | (refine .strip _ _ (fun h => ?_); simp_all; done) | exact .same _) .nil) (fun hG => ARead.load tabOk rfl rfl rfl (by repeat (first | exact Has.head _ | apply Has.tail)) (by first | decide | omega) rfl rfl) rfl rfl ?_
                refine AOps.gread rfl rfl rfl rfl rfl (.cons 12 _ _ _ rfl (by first | exact .strip _ _ id | (refine .strip _ _ (fun h => ?_); simp_all; done) | exact .same _) .nil) (fun hG => ARead.fieldAddr tabOk rfl rfl rfl rfl (by decide) rfl) rfl rfl ?_
                refine AOps.gread rfl rfl rfl rfl rfl (.cons 123 _ _ _ rfl (by first | exact .strip _ _ id | (refine .strip _ _ (fun h => ?_); simp_all; done) | exact .same _) .nil) (fun hG => ARead.fieldAddr tabOk rfl rfl rfl rfl (by decide) rfl) rfl rfl ?_
                refine AOps.gread rfl rfl rfl rfl rfl (.cons 124 _ _ _ rfl (by first | exact .strip _ _ id | (refine .strip _ _ (fun h => ?_); simp_all; done) | exact .same _) .nil) (fun hG => ARead.load tabOk rfl rfl rfl (by repeat (first | exact Has.head _ | apply Has.tail)) (by first | decide | omega) rfl rfl) rfl rfl ?_
                refine AOps.keep [1, 10, 12, 97, 98, 99, 108, 109, 110, 118, 119, 122, 125] rfl ?_
                refine AOps.gread rfl rfl rfl rfl rfl (.cons 122 _ _ _ rfl (by first | exact .strip _ _ id | (refine .strip _ _ (fun h => ?_); simp_all; done) | exact .same _) (.cons 125 _ _ _ rfl (by first | exact .strip _ _ id | (refine .strip _ _ (fun h => ?_); simp_all; done) | exact .same _) .nil)) (fun hG => ARead.build tabOk rfl rfl rfl rfl rfl rfl rfl) rfl rfl ?_
                refine AOps.gpcall rfl rfl rfl rfl rfl (.cons 119 _ _ _ rfl (by first | exact .strip _ _ id | (refine .strip _ _ (fun h => ?_); simp_all; done) | exact .same _) (.cons 126 _ _ _ rfl (by first | exact .strip _ _ id | (refine .strip _ _ (fun h => ?_); simp_all; done) | exact .same _) .nil)) rfl (by first | exact .inr ⟨rfl, rfl, rfl⟩ | exact .inl rfl) rfl (fun hG => rCovers_ok _ _ _ _) rfl rfl (fun N hN => ?_)
                refine AOps.gread rfl rfl rfl rfl rfl (.cons 127 _ _ _ rfl (by first | exact .strip _ _ id | (refine .strip _ _ (fun h => ?_); simp_all; done) | exact .same _) .nil) (fun hG => ARead.unOp rfl rfl rfl) rfl rfl ?_
                first | refine AOps.read (ARead.pickB rfl rfl rfl (by first | exact .strip _ _ id | (refine .strip _ _ (fun h => ?_); simp_all; done) | exact .same _) rfl (by first | exact .strip _ _ id | (refine .strip _ _ (fun h => ?_); simp_all; done) | exact .same _)) rfl rfl rfl ?_ | refine AOps.read (ARead.pick rfl rfl rfl) rfl rfl rfl ?_
                refine AOps.keep [1, 10, 12, 97, 98, 99, 108, 109, 110, 129] rfl ?_
                refine AOps.read (ARead.move rfl rfl) rfl rfl rfl ?_
                refine AOps.gread rfl rfl rfl rfl rfl (.cons 12 _ _ _ rfl (by first | exact .strip _ _ id | (refine .strip _ _ (fun h => ?_); simp_all; done) | exact .same _) .nil) (fun hG => ARead.fieldAddr tabOk rfl rfl rfl rfl (by decide) rfl) rfl rfl ?_
                refine AOps.gread rfl rfl rfl rfl rfl (.cons 131 _ _ _ rfl (by first | exact .strip _ _ id | (refine .strip _ _ (fun h => ?_); simp_all; done) | exact .same _) .nil) (fun hG => ARead.fieldAddr tabOk rfl rfl rfl rfl (by decide) rfl) rfl rfl ?_
                refine AOps.gread rfl rfl rfl rfl rfl (.cons 132 _ _ _ rfl (by first | exact .strip _ _ id | (refine .strip _ _ (fun h => ?_); simp_all; done) | exact .same _) .nil) (fun hG => ARead.load tabOk rfl rfl rfl (by repeat (first | exact Has.head _ | apply Has.tail)) (by first | decide | omega) rfl rfl) rfl rfl ?_
                refine AOps.keep [1, 10, 12, 97, 98, 99, 108, 109, 110, 130, 133] rfl ?_
                refine AOps.gread rfl rfl rfl rfl rfl (.cons 133 _ _ _ rfl (by first | exact .strip _ _ id | (refine .strip _ _ (fun h => ?_); simp_all; done) | exact .same _) .nil) (fun hG => ARead.binOp rfl rfl rfl rfl) rfl rfl ?_
                refine AOps.gread rfl rfl rfl rfl rfl (.cons 134 _ _ _ rfl (by first | exact .strip _ _ id | (refine .strip _ _ (fun h => ?_); simp_all; done) | exact .same _) .nil) (fun hG => ARead.move rfl rfl) rfl rfl ?_
                refine AOps.gread rfl rfl rfl rfl rfl (.cons 10 _ _ _ rfl (by first | exact .strip _ _ id | (refine .strip _ _ (fun h => ?_); simp_all; done) | exact .same _) .nil) (fun hG => ARead.load tabOk rfl rfl rfl (by repeat (first | exact Has.head _ | apply Has.tail)) (by first | decide | omega) rfl rfl) rfl rfl ?_
                refine AOps.gread rfl rfl rfl rfl rfl (.cons 12 _ _ _ rfl (by first | exact .strip _ _ id | (refine .strip _ _ (fun h => ?_); simp_all; done) | exact .same _) .nil) (fun hG => ARead.fieldAddr tabOk rfl rfl rfl rfl (by decide) rfl) rfl rfl ?_
                refine AOps.keep [1, 10, 97, 98, 99, 108, 109, 110, 130, 135, 136, 137] rfl ?_
                refine AOps.gread rfl rfl rfl rfl rfl (.cons 137 _ _ _ rfl (by first | exact .strip _ _ id | (refine .strip _ _ (fun h => ?_); simp_all; done) | exact .same _) .nil) (fun hG => ARead.fieldAddr tabOk rfl rfl rfl rfl (by decide) rfl) rfl rfl ?_
                refine AOps.gread rfl rfl rfl rfl rfl (.cons 138 _ _ _ rfl (by first | exact .strip _ _ id | (refine .strip _ _ (fun h => ?_); simp_all; done) | exact .same _) .nil) (fun hG => ARead.load tabOk rfl rfl rfl (by repeat (first | exact Has.head _ | apply Has.tail)) (by first | decide | omega) rfl rfl) rfl rfl ?_
                refine AOps.gpcall rfl rfl rfl rfl rfl (.cons 136 _ _ _ rfl (by first | exact .strip _ _ id | (refine .strip _ _ (fun h => ?_); simp_all; done) | exact .same _) (.cons 139 _ _ _ rfl (by first | exact .strip _ _ id | (refine .strip _ _ (fun h => ?_); simp_all; done) | exact .same _) .nil)) rfl (by first | exact .inr ⟨rfl, rfl, rfl⟩ | exact .inl rfl) rfl (fun hG => rHas_ok _ _ _) rfl rfl (fun N hN => ?_)
                refine AOps.gread rfl rfl rfl rfl rfl (.cons 140 _ _ _ rfl (by first | exact .strip _ _ id | (refine .strip _ _ (fun h => ?_); simp_all; done) | exact .same _) .nil) (fun hG => ARead.unOp rfl rfl rfl) rfl rfl ?_
                refine AOps.keep [1, 10, 97, 98, 99, 108, 109, 110, 130, 135, 141] rfl ?_
                first | refine AOps.gread rfl rfl rfl rfl rfl (.cons 135 _ _ _ rfl (by first | exact .strip _ _ id | (refine .strip _ _ (fun h => ?_); simp_all; done) | exact .same _) (.cons 141 _ _ _ rfl (by first | exact .strip _ _ id | (refine .strip _ _ (fun h => ?_); simp_all; done) | exact .same _) .nil)) (fun hG => ARead.pickB rfl rfl rfl (by first | exact .strip _ _ id | (refine .strip _ _ (fun h => ?_); simp_all; done) | exact .same _) rfl (by first | exact .strip _ _ id | (refine .strip _ _ (fun h => ?_); simp_all; done) | exact .same _)) rfl rfl ?_ | refine AOps.gread rfl rfl rfl rfl rfl (.cons 135 _ _ _ rfl (by first | exact .strip _ _ id | (refine .strip _ _ (fun h => ?_); simp_all; done) | exact .same _) (.cons 141 _ _ _ rfl (by first | exact .strip _ _ id | (refine .strip _ _ (fun h => ?_); simp_all; done) | exact .same _) .nil)) (fun hG => ARead.pick rfl rfl rfl) rfl rfl ?_
                first | refine AOps.read (ARead.pickB rfl rfl rfl (by first | exact .strip _ _ id | (refine .strip _ _ (fun h => ?_); simp_all; done) | exact .same _) rfl (by first | exact .strip _ _ id | (refine .strip _ _ (fun h => ?_); simp_all; done) | exact .same _)) rfl rfl rfl ?_ | refine AOps.read (ARead.pick rfl rfl rfl) rfl rfl rfl ?_
                refine AOps.nil (hK65 _ _ _ ?_); clear hK65 K65
                refine AWp.keep [1, 10, 97, 98, 99, 108, 109, 110, 143] rfl ?_
                refine AWp.cond rfl (fun hb66 => ?_) (fun hb66 => ?_)
                · have hc66 := hb66; clear hb66; try simp only [decide_eq_true_eq, decide_eq_false_iff_not, Bool.not_eq_true, Bool.not_eq_false, Int.not_lt, Int.not_le, Bool.not_eq_true', Bool.not_eq_false'] at hc66
                  simp only [Int.toNat_natCast] at hc66
                  have hw := out_step hc66
                  have hfin : nodeCheckF n = 130 := by rw [List.any_cons, hw, Bool.true_or] at hy2; rw [if_pos hy2.symm] at hg2; unfold nodeCheckF; rw [if_neg (by simp [hc4]), if_neg (by simp [hbad]), if_neg (by simp [hp]), if_neg (by simp [hbe]), if_pos hg2.symm]
                  refine AWp.regK fun K67 hK67 => ?_
                  refine AOps.read (ARead.assign rfl rfl) rfl rfl rfl ?_
                  refine AOps.nil (hK67 _ _ _ ?_); clear hK67 K67
                  refine AWp.keep [2] rfl ?_
                  refine AWp.ret ?_
                  refine ⟨Or.inr rfl, _, (.tmp _ _ _ _ rfl .nil), ?_⟩
                  (try clear hK67 K67); (try clear hK66 K66); (try clear hK65 K65); (try clear hK64 K64); (try clear hK63 K63); (try clear hK62 K62); (try clear hK61 K61); (try clear hK60 K60); (try clear hK59 K59); (try clear hK58 K58); (try clear hK57 K57); (try clear hK56 K56); (try clear hK55 K55); (try clear hK54 K54); (try clear hK53 K53); (try clear hK52 K52); (try clear hK51 K51); (try clear hK50 K50); (try clear hK49 K49); (try clear hK48 K48); (try clear hK47 K47); (try clear hK46 K46); (try clear hK45 K45); (try clear hK44 K44); (try clear hK43 K43); (try clear hK42 K42); (try clear hK41 K41); (try clear hK40 K40); (try clear hK39 K39); (try clear hK38 K38); (try clear hK37 K37); (try clear hK36 K36); (try clear hK35 K35); (try clear hK34 K34); (try clear hK33 K33); (try clear hK32 K32); (try clear hK31 K31); (try clear hK30 K30); (try clear hK29 K29); (try clear hK28 K28); (try clear hK27 K27); (try clear hK26 K26); (try clear hK25 K25); (try clear hK24 K24); (try clear hK23 K23); (try clear hK22 K22); (try clear hK21 K21); (try clear hK20 K20); (try clear hK19 K19); (try clear hK18 K18); (try clear hK17 K17); (try clear hK16 K16); (try clear hK15 K15); (try clear hK14 K14); (try clear hK13 K13); (try clear hK12 K12); (try clear hK11 K11); (try clear hK10 K10); (try clear hK9 K9); (try clear hK8 K8); (try clear hK7 K7); (try clear hK6 K6); (try clear hK5 K5); (try clear hK4 K4); (try clear hK3 K3); (try clear hK2 K2); (try clear hK1 K1)
                  show packR _ = _
                  show vi _ = vi _; rw [hfin]
                · have hc66 := hb66; clear hb66; try simp only [decide_eq_true_eq, decide_eq_false_iff_not, Bool.not_eq_true, Bool.not_eq_false, Int.not_lt, Int.not_le, Bool.not_eq_true', Bool.not_eq_false'] at hc66
                  simp only [Int.toNat_natCast] at hc66
                  have hw := out_step hc66
                  refine AWp.skip (hK62 _ _ _ ?_); try clear hK62 K62
                  refine AWp.keep [1, 10, 97, 98, 99, 108, 109, 110] rfl ?_
                  refine AWp.region ?_
                  first | refine AOps.read (ARead.binW rfl rfl rfl rfl (i64_ok (by omega) (by omega))) rfl rfl rfl ?_ | refine AOps.read (ARead.binOp rfl rfl rfl rfl) rfl rfl rfl ?_
                  refine AOps.read (ARead.move rfl rfl) rfl rfl rfl ?_
                  (try clear hK67 K67); (try clear hK66 K66); (try clear hK65 K65); (try clear hK64 K64); (try clear hK63 K63); (try clear hK62 K62); (try clear hK61 K61); (try clear hK60 K60); (try clear hK59 K59); (try clear hK57 K57); (try clear hK56 K56); (try clear hK55 K55); (try clear hK54 K54); (try clear hK53 K53); (try clear hK52 K52); (try clear hK51 K51); (try clear hK50 K50); (try clear hK49 K49); (try clear hK48 K48); (try clear hK47 K47); (try clear hK46 K46); (try clear hK45 K45); (try clear hK44 K44); (try clear hK43 K43); (try clear hK42 K42); (try clear hK41 K41); (try clear hK40 K40); (try clear hK39 K39); (try clear hK38 K38); (try clear hK37 K37); (try clear hK36 K36); (try clear hK35 K35); (try clear hK34 K34); (try clear hK33 K33); (try clear hK32 K32); (try clear hK31 K31); (try clear hK30 K30); (try clear hK29 K29); (try clear hK28 K28); (try clear hK27 K27); (try clear hK26 K26); (try clear hK25 K25); (try clear hK24 K24); (try clear hK23 K23); (try clear hK22 K22); (try clear hK21 K21); (try clear hK20 K20); (try clear hK19 K19); (try clear hK18 K18); (try clear hK17 K17); (try clear hK16 K16); (try clear hK15 K15); (try clear hK14 K14); (try clear hK13 K13); (try clear hK12 K12); (try clear hK11 K11); (try clear hK10 K10); (try clear hK9 K9); (try clear hK8 K8); (try clear hK7 K7); (try clear hK6 K6); (try clear hK5 K5); (try clear hK4 K4); (try clear hK3 K3); (try clear hK2 K2); (try clear hK1 K1)
                  refine AOps.nil (hK58 _ _ _ (y + 1) _ (by rfl) (.cons _ _ _ _ _ _ (by repeat (first | exact Has.head _ | apply Has.tail)) (.cons _ _ _ _ _ _ (by repeat (first | exact Has.head _ | apply Has.tail)) (.nil _))) (by refine ⟨by omega, ?_⟩; rw [← hy2, List.any_cons, hw, Bool.false_or]) (by omega))
              · have hc61 := hb61; clear hb61; try simp only [decide_eq_true_eq, decide_eq_false_iff_not, Bool.not_eq_true, Bool.not_eq_false, Int.not_lt, Int.not_le, Bool.not_eq_true', Bool.not_eq_false'] at hc61
                rw [List.drop_of_length_le (by omega)] at hy2
                have hno : outF n.pivots x (n.bufs.getD x bf0) = false := hy2.symm
                refine AWp.exit (Or.inl ⟨rfl, (hK52 _ _ _ ?_)⟩); try clear hK52 K52
                refine AWp.keep [1, 97, 98, 99] rfl ?_
                refine AWp.region ?_
                first | refine AOps.read (ARead.binW rfl rfl rfl rfl (i64_ok (by omega) (by omega))) rfl rfl rfl ?_ | refine AOps.read (ARead.binOp rfl rfl rfl rfl) rfl rfl rfl ?_
                refine AOps.read (ARead.move rfl rfl) rfl rfl rfl ?_
                (try clear hK67 K67); (try clear hK66 K66); (try clear hK65 K65); (try clear hK64 K64); (try clear hK63 K63); (try clear hK62 K62); (try clear hK61 K61); (try clear hK60 K60); (try clear hK59 K59); (try clear hK58 K58); (try clear hK57 K57); (try clear hK56 K56); (try clear hK55 K55); (try clear hK54 K54); (try clear hK53 K53); (try clear hK52 K52); (try clear hK51 K51); (try clear hK50 K50); (try clear hK49 K49); (try clear hK47 K47); (try clear hK46 K46); (try clear hK45 K45); (try clear hK44 K44); (try clear hK43 K43); (try clear hK42 K42); (try clear hK41 K41); (try clear hK40 K40); (try clear hK39 K39); (try clear hK38 K38); (try clear hK37 K37); (try clear hK36 K36); (try clear hK35 K35); (try clear hK34 K34); (try clear hK33 K33); (try clear hK32 K32); (try clear hK31 K31); (try clear hK30 K30); (try clear hK29 K29); (try clear hK28 K28); (try clear hK27 K27); (try clear hK26 K26); (try clear hK25 K25); (try clear hK24 K24); (try clear hK23 K23); (try clear hK22 K22); (try clear hK21 K21); (try clear hK20 K20); (try clear hK19 K19); (try clear hK18 K18); (try clear hK17 K17); (try clear hK16 K16); (try clear hK15 K15); (try clear hK14 K14); (try clear hK13 K13); (try clear hK12 K12); (try clear hK11 K11); (try clear hK10 K10); (try clear hK9 K9); (try clear hK8 K8); (try clear hK7 K7); (try clear hK6 K6); (try clear hK5 K5); (try clear hK4 K4); (try clear hK3 K3); (try clear hK2 K2); (try clear hK1 K1)
                refine AOps.nil (hK48 _ _ _ (x + 1) _ (by rfl) (.cons _ _ _ _ _ _ (by repeat (first | exact Has.head _ | apply Has.tail)) (.nil _)) (by refine ⟨by omega, ?_⟩; rw [← hg2, if_neg (by rw [hno]; exact Bool.false_ne_true)]) (by omega))
            · have hc51 := hb51; clear hb51; try simp only [decide_eq_true_eq, decide_eq_false_iff_not, Bool.not_eq_true, Bool.not_eq_false, Int.not_lt, Int.not_le, Bool.not_eq_true', Bool.not_eq_false'] at hc51
              rw [List.drop_of_length_le (by omega)] at hg2
              simp only [anyOutF] at hg2
              have hfin : nodeCheckF n = 0 := by unfold nodeCheckF; rw [if_neg (by simp [hc4]), if_neg (by simp [hbad]), if_neg (by simp [hp]), if_neg (by simp [hbe]), ← hg2]; rfl
              refine AWp.exit (Or.inl ⟨rfl, (hK45 _ _ _ ?_)⟩); try clear hK45 K45
              refine AWp.keep [] rfl ?_
              refine AWp.regK fun K68 hK68 => ?_
              refine AOps.read (ARead.assign rfl rfl) rfl rfl rfl ?_
              refine AOps.nil (hK68 _ _ _ ?_); clear hK68 K68
              refine AWp.keep [2] rfl ?_
              refine AWp.ret ?_
              refine ⟨Or.inr rfl, _, (.tmp _ _ _ _ rfl .nil), ?_⟩
              (try clear hK68 K68); (try clear hK67 K67); (try clear hK66 K66); (try clear hK65 K65); (try clear hK64 K64); (try clear hK63 K63); (try clear hK62 K62); (try clear hK61 K61); (try clear hK60 K60); (try clear hK59 K59); (try clear hK58 K58); (try clear hK57 K57); (try clear hK56 K56); (try clear hK55 K55); (try clear hK54 K54); (try clear hK53 K53); (try clear hK52 K52); (try clear hK51 K51); (try clear hK50 K50); (try clear hK49 K49); (try clear hK48 K48); (try clear hK47 K47); (try clear hK46 K46); (try clear hK45 K45); (try clear hK44 K44); (try clear hK43 K43); (try clear hK42 K42); (try clear hK41 K41); (try clear hK40 K40); (try clear hK39 K39); (try clear hK38 K38); (try clear hK37 K37); (try clear hK36 K36); (try clear hK35 K35); (try clear hK34 K34); (try clear hK33 K33); (try clear hK32 K32); (try clear hK31 K31); (try clear hK30 K30); (try clear hK29 K29); (try clear hK28 K28); (try clear hK27 K27); (try clear hK26 K26); (try clear hK25 K25); (try clear hK24 K24); (try clear hK23 K23); (try clear hK22 K22); (try clear hK21 K21); (try clear hK20 K20); (try clear hK19 K19); (try clear hK18 K18); (try clear hK17 K17); (try clear hK16 K16); (try clear hK15 K15); (try clear hK14 K14); (try clear hK13 K13); (try clear hK12 K12); (try clear hK11 K11); (try clear hK10 K10); (try clear hK9 K9); (try clear hK8 K8); (try clear hK7 K7); (try clear hK6 K6); (try clear hK5 K5); (try clear hK4 K4); (try clear hK3 K3); (try clear hK2 K2); (try clear hK1 K1)
              show packR _ = _
              show vi _ = vi _; rw [hfin]

end Go.Sl
