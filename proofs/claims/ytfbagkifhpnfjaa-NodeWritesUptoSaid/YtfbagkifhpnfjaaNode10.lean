/- What node.Check grants node.whole; walks of node.Size and node.Encode. No condition beside those in the statements. -/
import Derived.Test.YtfbagkifhpnfjaaNode9
namespace Go.Sl
open Go Go.Proofs 
set_option linter.unusedVariables false
set_option linter.unusedSimpArgs false
set_option maxRecDepth 20000
set_option maxHeartbeats 400000
theorem checkKey_len {k : Str} (h : checkKeyF k = 0) : k.length ≤ 12 := by
  unfold checkKeyF at h; split at h
  · cases h
  · rename_i h1; have := not_or.1 h1; omega
theorem spanCheck_len {lo hi : Str} (h : spanCheckF lo hi = 0) : lo.length ≤ 12 ∧ hi.length ≤ 12 := by
  unfold spanCheckF at h; split at h
  · rename_i h1; rw [h1.1, h1.2]; simp
  · split at h
    · cases h
    · rename_i h2; have := not_or.1 h2; have := not_or.1 this.2; omega
theorem checkMap_len : ∀ (last : Str) (m : List Pr), checkMapF last m = 0 → ∀ p ∈ m, p.key.length ≤ 12 ∧ p.val.length ≤ 16
  | _, [], _, p, hp => by cases hp
  | last, q :: m, h, p, hp => by
    simp only [checkMapF] at h
    split at h
    · cases h
    · rename_i h1
      split at h
      · cases h
      · rename_i h2
        split at h
        · cases h
        · rcases List.mem_cons.1 hp with rfl | hp
          · exact ⟨checkKey_len (Decidable.not_not.1 h1), by omega⟩
          · exact checkMap_len q.key m h p hp
theorem bufCheck_mem : ∀ (last : Option Int) (l : List En), bufCheckF last l = 0 → ∀ x ∈ l, checkOpF x.op = 0 ∧ fWri x.op.kind = true
  | _, [], _, p, hp => by cases hp
  | last, q :: m, h, p, hp => by
    simp only [bufCheckF] at h
    split at h
    · rename_i h1; exact absurd h h1
    · rename_i h1
      split at h
      · cases h
      · rename_i h2
        have t : ∀ (c : Bool) (z : Int), (if c = true then (1 : Int) else z) = 0 → z = 0 := by intro c z; cases c <;> simp
        have h := t _ _ h
        rcases List.mem_cons.1 hp with rfl | hp
        · exact ⟨Decidable.not_not.1 h1, by simpa using h2⟩
        · exact bufCheck_mem _ m h p hp
theorem bufsErr_mem : ∀ (l : List Bf), bufsErrF l = 0 → ∀ b ∈ l, bufCheckF none b.l = 0
  | [], _, p, hp => by cases hp
  | q :: m, h, p, hp => by
    simp only [bufsErrF] at h
    split at h
    · rename_i h1; exact absurd h h1
    · rename_i h1
      rcases List.mem_cons.1 hp with rfl | hp
      · exact Decidable.not_not.1 h1
      · exact bufsErr_mem m h p hp
theorem checkOp_len {o : O6} (h : checkOpF o = 0) : o.key.length ≤ 16 ∧ o.val.length ≤ 16 ∧ o.lo.length ≤ 16 ∧ o.hi.length ≤ 16 := by
  unfold checkOpF at h
  split at h
  · cases h
  · rename_i h1
    split at h
    · cases h
    · rename_i h2
      split at h
      · cases h
      · rename_i h3
        split at h
        · cases h
        · rename_i h4
          have a := not_or.1 h1; have b := not_or.1 a.2; have c := not_or.1 b.2; have d := not_or.1 c.2
          have hk : o.key.length ≤ 12 := by
            cases hf : fKey o.kind with
            | false => rw [Decidable.not_not.1 (fun hn => b.1 ⟨hf, hn⟩)]; simp
            | true => exact checkKey_len (Decidable.not_not.1 (fun hn => h2 ⟨hf, hn⟩))
          have hr : o.lo.length ≤ 12 ∧ o.hi.length ≤ 12 := by
            cases hf : fRan o.kind with
            | false => have e := Decidable.not_not.1 (fun hn => d.1 ⟨hf, hn⟩); rw [e.1, e.2]; simp
            | true => exact spanCheck_len (Decidable.not_not.1 (fun hn => h4 ⟨hf, hn⟩))
          omega
theorem pivOk_len : ∀ (last : Option Str) (l : List Str), pivOkF last l = true → ∀ p ∈ l, p.length ≤ 12
  | _, [], _, p, hp => by cases hp
  | last, q :: m, h, p, hp => by
    simp only [pivOkF, Bool.and_eq_true] at h
    rcases List.mem_cons.1 hp with rfl | hp
    · exact checkKey_len (of_decide_eq_true h.1.1)
    · exact pivOk_len _ m h.2 p hp
theorem foldMin : ∀ (l : List Int) (a : Int), l.foldl (fun a b => if b < a then b else a) a ≤ a ∧ ∀ x ∈ l, l.foldl (fun a b => if b < a then b else a) a ≤ x
  | [], a => ⟨Int.le_refl _, fun x hx => by cases hx⟩
  | y :: l, a => by
    simp only [List.foldl_cons]
    have ih := foldMin l (if y < a then y else a)
    have h2 : (if y < a then y else a) ≤ a ∧ (if y < a then y else a) ≤ y := by split <;> omega
    refine ⟨by omega, fun x hx => ?_⟩
    rcases List.mem_cons.1 hx with rfl | hx
    · omega
    · exact ih.2 x hx
theorem foldMax : ∀ (l : List Int) (a : Int), a ≤ l.foldl (fun a b => if b > a then b else a) a ∧ ∀ x ∈ l, x ≤ l.foldl (fun a b => if b > a then b else a) a
  | [], a => ⟨Int.le_refl _, fun x hx => by cases hx⟩
  | y :: l, a => by
    simp only [List.foldl_cons]
    have ih := foldMax l (if y > a then y else a)
    have h2 : a ≤ (if y > a then y else a) ∧ y ≤ (if y > a then y else a) := by split <;> omega
    refine ⟨by omega, fun x hx => ?_⟩
    rcases List.mem_cons.1 hx with rfl | hx
    · omega
    · exact ih.2 x hx
theorem minF_le {l : List Int} {x : Int} (h : x ∈ l) : minF l ≤ x := by
  cases l with
  | nil => cases h
  | cons a l =>
    rcases List.mem_cons.1 h with rfl | h
    · exact (foldMin l x).1
    · exact (foldMin l a).2 x h
theorem le_maxF {l : List Int} {x : Int} (h : x ∈ l) : x ≤ maxF l := by
  cases l with
  | nil => cases h
  | cons a l =>
    rcases List.mem_cons.1 h with rfl | h
    · exact (foldMax l x).1
    · exact (foldMax l a).2 x h
theorem flatMap_le {α : Type} {f : α → List UInt8} (c : Nat) : ∀ (l : List α), (∀ x ∈ l, (f x).length ≤ c) → (l.flatMap f).length ≤ c * l.length
  | [], _ => by simp
  | x :: l, h => by
    have h1 := h x (List.mem_cons_self ..)
    have h2 := flatMap_le c l (fun y hy => h y (List.mem_cons_of_mem _ hy))
    simp only [List.flatMap_cons, List.length_append, List.length_cons, Nat.mul_add, Nat.mul_one]; omega
theorem textF_le {s : Str} (h : s.length ≤ 16) : (textF s).length ≤ 17 := by
  simp only [textF, List.length_append]
  rw [numF_small (by omega)]; simp; omega
theorem textsF_le {l : List Str} (h : ∀ s ∈ l, s.length ≤ 16) : (textsF l).length ≤ 17 * l.length := flatMap_le 17 l fun s hs => textF_le (h s hs)
theorem pairB_le {p : Pr} (h : p.key.length ≤ 12 ∧ p.val.length ≤ 16) : (pairB p).length ≤ 34 :=
  textsF_le (l := [p.key, p.val]) (by intro s hs; simp at hs; rcases hs with rfl | rfl <;> omega)
theorem opTexts16 {x : En} (h : x.op.key.length ≤ 16 ∧ x.op.val.length ≤ 16 ∧ x.op.lo.length ≤ 16 ∧ x.op.hi.length ≤ 16) : ∀ s ∈ opTexts x.op, s.length ≤ 16 := by
  obtain ⟨h1, h2, h3, h4⟩ := h
  intro s hs
  unfold opTexts at hs
  split at hs
  · simp at hs; rcases hs with rfl | rfl <;> assumption
  · split at hs
    · simp at hs; subst hs; assumption
    · split at hs
      · simp at hs; rcases hs with rfl | rfl <;> assumption
      · cases hs
theorem entB_le {x : En} (hs : 0 ≤ x.seq ∧ x.seq < 18446744073709551616) (h : x.op.key.length ≤ 16 ∧ x.op.val.length ≤ 16 ∧ x.op.lo.length ≤ 16 ∧ x.op.hi.length ≤ 16) : (entB x).length ≤ 45 := by
  have h1 := numF_short (n := x.seq.toNat) (by omega)
  have h2 := textsF_le (opTexts16 h)
  have h3 := opTexts_few x
  simp only [entB, List.length_append, List.length_cons, List.length_nil]; omega
structure NdFit (n : Nd) : Prop where
  pairs : n.pairs.length ≤ 1048576
  kids : n.kids.length ≤ 1048576
  pivots : n.pivots.length ≤ 1048576
  bufs : n.bufs.length ≤ 1048576
  each : ∀ b ∈ n.bufs, b.l.length ≤ 1048576
  seqs : ∀ b ∈ n.bufs, ∀ x ∈ b.l, 0 ≤ x.seq ∧ x.seq < 18446744073709551616
theorem NdFit.ok {n : Nd} (h : NdFit n) : NdOk n := ⟨Nat.le_trans h.pairs (by decide), Nat.le_trans h.kids (by decide), Nat.le_trans h.pivots (by decide), Nat.le_trans h.bufs (by decide), fun b hb => Nat.le_trans (h.each b hb) (by decide)⟩
theorem NdGood.fit {n : Nd} (g : NdGood n) : NdFit n := ⟨g.pairs.1, g.kids.1, g.pivots.1, g.bufs.1, fun b hb => (g.bufs.2 b hb).2.1, fun b hb x hx => by
  have h := ((g.bufs.2 b hb).2.2 x hx).1
  simp [Lit.wf, IntKind.min, IntKind.max, IntKind.signed, IntKind.bits] at h
  omega⟩
theorem whole_len {n : Nd} (f : NdFit n) (h : nodeCheckF n = 0) : WholeOk n := by
  unfold nodeCheckF at h
  by_cases hl : n.leaf = true
  · rw [if_pos hl] at h
    split at h
    · cases h
    · rename_i h0
      have hk : n.kids = [] := List.eq_nil_of_length_eq_zero (by omega)
      have hp : n.pivots = [] := List.eq_nil_of_length_eq_zero (by omega)
      have hb : n.bufs = [] := List.eq_nil_of_length_eq_zero (by omega)
      have hm := checkMap_len _ _ h
      have h1 := f.pairs
      refine ⟨⟨by omega, fun p hp => by have := hm p hp; omega⟩, by rw [hk]; simp, by rw [hp]; simp, by rw [hb]; simp, ?_⟩
      have h2 := flatMap_le (f := pairB) 34 n.pairs (fun p hp => pairB_le (hm p hp))
      have h3 := numF_short (n := n.pairs.length) (by omega)
      unfold wholeF; rw [if_pos hl]
      simp only [List.length_append, List.length_cons, List.length_nil]; omega
  · rw [if_neg hl] at h
    split at h
    · cases h
    · rename_i h1
      obtain ⟨b1, b2, b3, b4, b5, b6, b7⟩ := nodeBad_false (Bool.eq_false_iff.2 h1)
      split at h
      · cases h
      · rename_i h2
        have hp : pivOkF none n.pivots = true := by simpa using h2
        split at h
        · rename_i h3; exact absurd h h3
        · rename_i h3
          have hbe := bufsErr_mem _ (Decidable.not_not.1 h3)
          have hx : ∀ b ∈ n.bufs, ∀ x ∈ b.l, EnWh x ∧ (entB x).length ≤ 45 := fun b hb x hx => by
            have c := bufCheck_mem _ _ (hbe b hb) x hx
            have l := checkOp_len c.1
            have s := f.seqs b hb x hx
            refine ⟨⟨of_decide_eq_true c.2, s, by omega, by omega, by omega, by omega⟩, entB_le s l⟩
          have hkid : ∀ k ∈ n.kids, 0 ≤ k ∧ k ≤ 2147483647 := fun k hk => by
            have := minF_le hk; have := le_maxF hk; omega
          have hpl := pivOk_len _ _ hp
          refine ⟨by rw [b1]; simp, ⟨by omega, hkid⟩, ⟨by omega, fun p hp => by have := hpl p hp; omega⟩, ⟨by omega, fun b hb => ⟨by have := f.each b hb; omega, fun x hx' => (hx b hb x hx').1⟩⟩, ?_⟩
          have e1 := numF_short (n := n.kids.length) (by omega)
          have e2 := flatMap_le (f := kidB) 10 n.kids (fun k hk => numF_short (by have := hkid k hk; omega))
          have e3 := textsF_le (l := n.pivots) (fun p hp => by have := hpl p hp; omega)
          have e4 := flatMap_le (f := bufB) 48000000 n.bufs (fun b hb => by
            have i1 := f.each b hb
            have i2 := flatMap_le (f := entB) 45 b.l (fun x hx' => (hx b hb x hx').2)
            have i3 := numF_short (n := b.l.length) (by omega)
            simp only [bufB, List.length_append]; omega)
          unfold wholeF; rw [if_neg hl]
          simp only [List.length_append, List.length_cons, List.length_nil]; omega
theorem whole_gives (n : Nd) (ok : WholeOk n) (N : Nat) : ACall Try.prog 85 [ndA n] N [] fun _ r H' => GivesB (wholeF n) r H' := ACall.forget (whole_ok n ok N)
def sizeF (n : Nd) : Int := if nodeCheckF n ≠ 0 then 0 else (wholeF n).length
def encErrF (n : Nd) : Int := if nodeCheckF n ≠ 0 then nodeCheckF n else if 480 < (wholeF n).length then 2 else 0

theorem nodeSize_ok (n : Nd) (f : NdFit n) : APure Try.prog 38 [ndA n] (.tuple [vi (sizeF n), vi (nodeCheckF n)]) := by
  refine APure.intro fun N0 => ?_
  refine ACall.of_body tabOk (tab := tab) (fn := Try.f38) Try.func38 (by kernel_rfl) rfl (by simp [Try.f38]) ?_
  show AWp Try.prog 13 _ N0 [(0, ndA n)] [] _
  refine AWp.regK fun K1 hK1 => ?_
  refine AOps.op1 (AOp.box rfl rfl rfl) rfl rfl rfl ?_
  refine AOps.read (ARead.assign rfl rfl) rfl rfl rfl ?_
  refine AOps.read (ARead.assign rfl rfl) rfl rfl rfl ?_
  refine AOps.nil (hK1 _ _ _ ?_); clear hK1 K1
  refine AWp.keep [1] rfl ?_
  refine AWp.seqK fun K2 hK2 => ?_
  refine AWp.regK fun K3 hK3 => ?_
  refine AOps.read (ARead.load tabOk rfl rfl rfl (by repeat (first | exact Has.head _ | apply Has.tail)) (by first | decide | omega) rfl rfl) rfl rfl rfl ?_
  refine AOps.pcall (nodeCheck_ok n f.ok) rfl (by first | exact .inr ⟨rfl, rfl, rfl⟩ | exact .inl rfl) rfl rfl rfl rfl (fun N hN => ?_)
  refine AOps.read (ARead.assign rfl rfl) rfl rfl rfl ?_
  refine AOps.nil (hK3 _ _ _ ?_); clear hK3 K3
  refine AWp.keep [1, 4] rfl ?_
  refine AWp.regK fun K4 hK4 => ?_
  refine AOps.read (ARead.move rfl rfl) rfl rfl rfl ?_
  refine AOps.read (ARead.binOp rfl rfl rfl rfl) rfl rfl rfl ?_
  refine AOps.nil (hK4 _ _ _ ?_); clear hK4 K4
  refine AWp.keep [1, 4, 8] rfl ?_
  refine AWp.cond rfl (fun hb5 => ?_) (fun hb5 => ?_)
  · have hc5 := hb5; clear hb5; try simp only [decide_eq_true_eq, decide_eq_false_iff_not, Bool.not_eq_true, Bool.not_eq_false, Int.not_lt, Int.not_le, Bool.not_eq_true', Bool.not_eq_false'] at hc5
    refine AWp.regK fun K6 hK6 => ?_
    refine AOps.read (ARead.move rfl rfl) rfl rfl rfl ?_
    refine AOps.read (ARead.assign rfl rfl) rfl rfl rfl ?_
    refine AOps.read (ARead.assign rfl rfl) rfl rfl rfl ?_
    refine AOps.nil (hK6 _ _ _ ?_); clear hK6 K6
    refine AWp.keep [2, 3] rfl ?_
    refine AWp.ret ?_
    refine ⟨Or.inr rfl, _, (.tmp _ _ _ _ rfl (.tmp _ _ _ _ rfl .nil)), ?_⟩
    (try clear hK6 K6); (try clear hK5 K5); (try clear hK4 K4); (try clear hK3 K3); (try clear hK2 K2); (try clear hK1 K1)
    show packR _ = _
    simp only [packR, sizeF]; first | (rw [if_pos (by assumption)]; done) | (rw [if_neg (by simp_all)]; simp_all)
  · have hc5 := hb5; clear hb5; try simp only [decide_eq_true_eq, decide_eq_false_iff_not, Bool.not_eq_true, Bool.not_eq_false, Int.not_lt, Int.not_le, Bool.not_eq_true', Bool.not_eq_false'] at hc5
    refine AWp.skip (hK2 _ _ _ ?_); try clear hK2 K2
    refine AWp.keep [1] rfl ?_
    refine AWp.regK fun K7 hK7 => ?_
    refine AOps.read (ARead.load tabOk rfl rfl rfl (by repeat (first | exact Has.head _ | apply Has.tail)) (by first | decide | omega) rfl rfl) rfl rfl rfl ?_
    refine AOps.op ((AOp.call rfl (.inr ⟨rfl, rfl, rfl⟩) rfl (whole_gives n (whole_len f (by simp_all)) _)).frame (.nil _)) rfl rfl rfl ?_
    rintro N1 r1 H1 hN1 ⟨H1x, ⟨m1, rfl, rfl⟩, rfl⟩
    first | refine AOps.read (ARead.lenSl tabOk rfl rfl rfl rfl rfl) rfl rfl rfl ?_ | refine AOps.read (ARead.lenRow tabOk rfl rfl rfl rfl) rfl rfl rfl ?_
    refine AOps.read (ARead.assign rfl rfl) rfl rfl rfl ?_
    refine AOps.keep [2] rfl ?_
    refine AOps.read (ARead.assign rfl rfl) rfl rfl rfl ?_
    refine AOps.nil (hK7 _ _ _ ?_); clear hK7 K7
    refine AWp.keep [2, 3] rfl ?_
    refine AWp.ret ?_
    refine ⟨Or.inr rfl, _, (.tmp _ _ _ _ rfl (.tmp _ _ _ _ rfl .nil)), ?_⟩
    (try clear hK7 K7); (try clear hK6 K6); (try clear hK5 K5); (try clear hK4 K4); (try clear hK3 K3); (try clear hK2 K2); (try clear hK1 K1)
    show packR _ = _
    simp only [packR, sizeF]; first | (rw [if_pos (by assumption)]; done) | (rw [if_neg (by simp_all)]; simp_all)

theorem nodeEnc_err (n : Nd) (f : NdFit n) (he : encErrF n ≠ 0) : APure Try.prog 36 [ndA n] (.tuple [.fv nilS, vi (encErrF n)]) := by
  refine APure.intro fun N0 => ?_
  refine ACall.of_body tabOk (tab := tab) (fn := Try.f36) Try.func36 (by kernel_rfl) rfl (by simp [Try.f36]) ?_
  show AWp Try.prog 17 _ N0 [(0, ndA n)] [] _
  refine AWp.regK fun K1 hK1 => ?_
  refine AOps.op1 (AOp.box rfl rfl rfl) rfl rfl rfl ?_
  refine AOps.read (ARead.assign rfl rfl) rfl rfl rfl ?_
  refine AOps.read (ARead.assign rfl rfl) rfl rfl rfl ?_
  refine AOps.nil (hK1 _ _ _ ?_); clear hK1 K1
  refine AWp.keep [1] rfl ?_
  refine AWp.seqK fun K2 hK2 => ?_
  refine AWp.regK fun K3 hK3 => ?_
  refine AOps.read (ARead.load tabOk rfl rfl rfl (by repeat (first | exact Has.head _ | apply Has.tail)) (by first | decide | omega) rfl rfl) rfl rfl rfl ?_
  refine AOps.pcall (nodeCheck_ok n f.ok) rfl (by first | exact .inr ⟨rfl, rfl, rfl⟩ | exact .inl rfl) rfl rfl rfl rfl (fun N hN => ?_)
  refine AOps.read (ARead.assign rfl rfl) rfl rfl rfl ?_
  refine AOps.nil (hK3 _ _ _ ?_); clear hK3 K3
  refine AWp.keep [1, 4] rfl ?_
  refine AWp.regK fun K4 hK4 => ?_
  refine AOps.read (ARead.move rfl rfl) rfl rfl rfl ?_
  refine AOps.read (ARead.binOp rfl rfl rfl rfl) rfl rfl rfl ?_
  refine AOps.nil (hK4 _ _ _ ?_); clear hK4 K4
  refine AWp.keep [1, 4, 9] rfl ?_
  refine AWp.cond rfl (fun hb5 => ?_) (fun hb5 => ?_)
  · have hc5 := hb5; clear hb5; try simp only [decide_eq_true_eq, decide_eq_false_iff_not, Bool.not_eq_true, Bool.not_eq_false, Int.not_lt, Int.not_le, Bool.not_eq_true', Bool.not_eq_false'] at hc5
    refine AWp.regK fun K6 hK6 => ?_
    refine AOps.read (ARead.move rfl rfl) rfl rfl rfl ?_
    refine AOps.read (ARead.assign rfl rfl) rfl rfl rfl ?_
    refine AOps.read (ARead.assign rfl rfl) rfl rfl rfl ?_
    refine AOps.nil (hK6 _ _ _ ?_); clear hK6 K6
    refine AWp.keep [2, 3] rfl ?_
    refine AWp.ret ?_
    refine ⟨Or.inr rfl, _, (.tmp _ _ _ _ rfl (.tmp _ _ _ _ rfl .nil)), ?_⟩
    (try clear hK6 K6); (try clear hK5 K5); (try clear hK4 K4); (try clear hK3 K3); (try clear hK2 K2); (try clear hK1 K1)
    show packR _ = _
    simp only [packR, encErrF]; first | (rw [if_pos (by assumption)]; done) | (rw [if_neg (by simp_all), if_pos (by omega)]; done)
  · have hc5 := hb5; clear hb5; try simp only [decide_eq_true_eq, decide_eq_false_iff_not, Bool.not_eq_true, Bool.not_eq_false, Int.not_lt, Int.not_le, Bool.not_eq_true', Bool.not_eq_false'] at hc5
    refine AWp.skip (hK2 _ _ _ ?_); try clear hK2 K2
    refine AWp.keep [1] rfl ?_
    refine AWp.regK fun K7 hK7 => ?_
    refine AOps.read (ARead.load tabOk rfl rfl rfl (by repeat (first | exact Has.head _ | apply Has.tail)) (by first | decide | omega) rfl rfl) rfl rfl rfl ?_
    refine AOps.op ((AOp.call rfl (.inr ⟨rfl, rfl, rfl⟩) rfl (whole_gives n (whole_len f (by simp_all)) _)).frame (.nil _)) rfl rfl rfl ?_
    rintro N1 r1 H1 hN1 ⟨H1x, ⟨m1, rfl, rfl⟩, rfl⟩
    refine AOps.read (ARead.assign rfl rfl) rfl rfl rfl ?_
    refine AOps.nil (hK7 _ _ _ ?_); clear hK7 K7
    refine AWp.keep [5] rfl ?_
    refine AWp.seqK fun K8 hK8 => ?_
    refine AWp.regK fun K9 hK9 => ?_
    refine AOps.read (ARead.move rfl rfl) rfl rfl rfl ?_
    first | refine AOps.read (ARead.lenSl tabOk rfl rfl rfl rfl rfl) rfl rfl rfl ?_ | refine AOps.read (ARead.lenRow tabOk rfl rfl rfl rfl) rfl rfl rfl ?_
    refine AOps.read (ARead.binOp rfl rfl rfl rfl) rfl rfl rfl ?_
    refine AOps.nil (hK9 _ _ _ ?_); clear hK9 K9
    refine AWp.keep [5, 15] rfl ?_
    refine AWp.cond rfl (fun hb10 => ?_) (fun hb10 => ?_)
    · have hc10 := hb10; clear hb10; try simp only [decide_eq_true_eq, decide_eq_false_iff_not, Bool.not_eq_true, Bool.not_eq_false, Int.not_lt, Int.not_le, Bool.not_eq_true', Bool.not_eq_false'] at hc10
      simp only [bytesA, List.length_map] at hc10
      refine AWp.regK fun K11 hK11 => ?_
      refine AOps.read (ARead.assign rfl rfl) rfl rfl rfl ?_
      refine AOps.read (ARead.assign rfl rfl) rfl rfl rfl ?_
      refine AOps.nil (hK11 _ _ _ ?_); clear hK11 K11
      refine AWp.keep [2, 3] rfl ?_
      refine AWp.ret ?_
      refine ⟨Or.inr rfl, _, (.tmp _ _ _ _ rfl (.tmp _ _ _ _ rfl .nil)), ?_⟩
      (try clear hK11 K11); (try clear hK10 K10); (try clear hK9 K9); (try clear hK8 K8); (try clear hK7 K7); (try clear hK6 K6); (try clear hK5 K5); (try clear hK4 K4); (try clear hK3 K3); (try clear hK2 K2); (try clear hK1 K1)
      show packR _ = _
      simp only [packR, encErrF]; first | (rw [if_pos (by assumption)]; done) | (rw [if_neg (by simp_all), if_pos (by omega)]; done)
    · exfalso; have hc10 := hb10; clear hb10; try simp only [decide_eq_true_eq, decide_eq_false_iff_not, Bool.not_eq_true, Bool.not_eq_false, Int.not_lt, Int.not_le, Bool.not_eq_true', Bool.not_eq_false'] at hc10
      simp only [bytesA, List.length_map] at hc10
      exact he (by unfold encErrF; rw [if_neg (by simp_all), if_neg (by omega)])

theorem nodeEnc_ok (n : Nd) (f : NdFit n) (he : encErrF n = 0) (N0 : Nat) : ACall Try.prog 36 [ndA n] N0 [] (fun _ r H' => ∃ H1 Hx, Take H1 H' Hx ∧ ∃ v, r = .tuple [v, vi 0] ∧ GivesB (wholeF n) v H1) := by
  refine ACall.of_body tabOk (tab := tab) (fn := Try.f36) Try.func36 (by kernel_rfl) rfl (by simp [Try.f36]) ?_
  show AWp Try.prog 17 _ N0 [(0, ndA n)] [] _
  refine AWp.regK fun K1 hK1 => ?_
  refine AOps.op1 (AOp.box rfl rfl rfl) rfl rfl rfl ?_
  refine AOps.read (ARead.assign rfl rfl) rfl rfl rfl ?_
  refine AOps.read (ARead.assign rfl rfl) rfl rfl rfl ?_
  refine AOps.nil (hK1 _ _ _ ?_); clear hK1 K1
  refine AWp.keep [1] rfl ?_
  refine AWp.seqK fun K2 hK2 => ?_
  refine AWp.regK fun K3 hK3 => ?_
  refine AOps.read (ARead.load tabOk rfl rfl rfl (by repeat (first | exact Has.head _ | apply Has.tail)) (by first | decide | omega) rfl rfl) rfl rfl rfl ?_
  refine AOps.pcall (nodeCheck_ok n f.ok) rfl (by first | exact .inr ⟨rfl, rfl, rfl⟩ | exact .inl rfl) rfl rfl rfl rfl (fun N hN => ?_)
  refine AOps.read (ARead.assign rfl rfl) rfl rfl rfl ?_
  refine AOps.nil (hK3 _ _ _ ?_); clear hK3 K3
  refine AWp.keep [1, 4] rfl ?_
  refine AWp.regK fun K4 hK4 => ?_
  refine AOps.read (ARead.move rfl rfl) rfl rfl rfl ?_
  refine AOps.read (ARead.binOp rfl rfl rfl rfl) rfl rfl rfl ?_
  refine AOps.nil (hK4 _ _ _ ?_); clear hK4 K4
  refine AWp.keep [1, 4, 9] rfl ?_
  refine AWp.cond rfl (fun hb5 => ?_) (fun hb5 => ?_)
  · exfalso; have hc5 := hb5; clear hb5; try simp only [decide_eq_true_eq, decide_eq_false_iff_not, Bool.not_eq_true, Bool.not_eq_false, Int.not_lt, Int.not_le, Bool.not_eq_true', Bool.not_eq_false'] at hc5
    unfold encErrF at he; rw [if_pos (by assumption)] at he; exact absurd he (by assumption)
  · have hc5 := hb5; clear hb5; try simp only [decide_eq_true_eq, decide_eq_false_iff_not, Bool.not_eq_true, Bool.not_eq_false, Int.not_lt, Int.not_le, Bool.not_eq_true', Bool.not_eq_false'] at hc5
    refine AWp.skip (hK2 _ _ _ ?_); try clear hK2 K2
    refine AWp.keep [1] rfl ?_
    refine AWp.regK fun K6 hK6 => ?_
    refine AOps.read (ARead.load tabOk rfl rfl rfl (by repeat (first | exact Has.head _ | apply Has.tail)) (by first | decide | omega) rfl rfl) rfl rfl rfl ?_
    refine AOps.op ((AOp.call rfl (.inr ⟨rfl, rfl, rfl⟩) rfl (whole_gives n (whole_len f (by simp_all)) _)).frame (.nil _)) rfl rfl rfl ?_
    rintro N1 r1 H1 hN1 ⟨H1x, ⟨m1, rfl, rfl⟩, rfl⟩
    refine AOps.read (ARead.assign rfl rfl) rfl rfl rfl ?_
    refine AOps.nil (hK6 _ _ _ ?_); clear hK6 K6
    refine AWp.keep [5] rfl ?_
    refine AWp.seqK fun K7 hK7 => ?_
    refine AWp.regK fun K8 hK8 => ?_
    refine AOps.read (ARead.move rfl rfl) rfl rfl rfl ?_
    first | refine AOps.read (ARead.lenSl tabOk rfl rfl rfl rfl rfl) rfl rfl rfl ?_ | refine AOps.read (ARead.lenRow tabOk rfl rfl rfl rfl) rfl rfl rfl ?_
    refine AOps.read (ARead.binOp rfl rfl rfl rfl) rfl rfl rfl ?_
    refine AOps.nil (hK8 _ _ _ ?_); clear hK8 K8
    refine AWp.keep [5, 15] rfl ?_
    refine AWp.cond rfl (fun hb9 => ?_) (fun hb9 => ?_)
    · exfalso; have hc9 := hb9; clear hb9; try simp only [decide_eq_true_eq, decide_eq_false_iff_not, Bool.not_eq_true, Bool.not_eq_false, Int.not_lt, Int.not_le, Bool.not_eq_true', Bool.not_eq_false'] at hc9
      simp only [bytesA, List.length_map] at hc9
      unfold encErrF at he; rw [if_neg (by simp_all), if_pos (by omega)] at he; cases he
    · have hc9 := hb9; clear hb9; try simp only [decide_eq_true_eq, decide_eq_false_iff_not, Bool.not_eq_true, Bool.not_eq_false, Int.not_lt, Int.not_le, Bool.not_eq_true', Bool.not_eq_false'] at hc9
      refine AWp.skip (hK7 _ _ _ ?_); try clear hK7 K7
      refine AWp.keep [5] rfl ?_
      refine AWp.regK fun K10 hK10 => ?_
      refine AOps.read (ARead.move rfl rfl) rfl rfl rfl ?_
      refine AOps.read (ARead.assign rfl rfl) rfl rfl rfl ?_
      refine AOps.read (ARead.assign rfl rfl) rfl rfl rfl ?_
      refine AOps.nil (hK10 _ _ _ ?_); clear hK10 K10
      refine AWp.keep [2, 3] rfl ?_
      refine AWp.ret ?_
      refine ⟨Or.inr rfl, _, (.tmp _ _ _ _ rfl (.tmp _ _ _ _ rfl .nil)), ?_⟩
      (try clear hK10 K10); (try clear hK9 K9); (try clear hK8 K8); (try clear hK7 K7); (try clear hK6 K6); (try clear hK5 K5); (try clear hK4 K4); (try clear hK3 K3); (try clear hK2 K2); (try clear hK1 K1)
      exact ⟨_, _, .cons _ _ _ _ _ _ (.head _) (.nil _), _, rfl, _, rfl, rfl⟩

end Go.Sl
