/- Walks of package octet: numbers and texts as bytes. No condition beside those in the statements. -/
import Derived.Test.YtfbagkifhpnfjaaNode3
import Derived.Test.YtfbagkifhpnfjaaSl32
namespace Go.Sl
open Go Go.Proofs 
set_option linter.unusedVariables false
set_option linter.unusedSimpArgs false
set_option maxRecDepth 20000
set_option maxHeartbeats 400000
/-- A number's bytes. -/
def numF (n : Nat) : List UInt8 := if 128 ≤ n then UInt8.ofNat (n % 128 + 128) :: numF (n / 128) else [UInt8.ofNat n]
def textF (s : Str) : List UInt8 := numF s.length ++ s
theorem numF_big {n : Nat} (h : 128 ≤ n) : numF n = UInt8.ofNat (n % 128 + 128) :: numF (n / 128) := by rw [numF, if_pos h]
theorem numF_small {n : Nat} (h : n < 128) : numF n = [UInt8.ofNat n] := by rw [numF, if_neg (by omega)]
theorem numF_len : ∀ (k n : Nat), n < 128 ^ (k + 1) → 1 ≤ (numF n).length ∧ (numF n).length ≤ k + 1
  | 0, n, h => by rw [numF_small (by simpa using h)]; simp
  | k + 1, n, h => by
    by_cases h1 : 128 ≤ n
    · rw [numF_big h1]
      have := numF_len k (n / 128) (Nat.div_lt_of_lt_mul (by rw [Nat.pow_succ, Nat.mul_comm] at h; exact h))
      simp only [List.length_cons]; omega
    · rw [numF_small (by omega)]; simp
theorem orAll : ∀ a : Fin 256, IntKind.u8.wrap ((BitVec.ofInt 8 (a.val : Int) ||| BitVec.ofInt 8 128).toNat : Int) = ((UInt8.ofNat (a.val % 128 + 128)).toNat : Int) := by decide
theorem wrap8 (n : Nat) : IntKind.u8.wrap (n : Int) = ((n % 256 : Nat) : Int) := by
  simp only [IntKind.wrap, IntKind.bits, IntKind.signed, Bool.false_and]
  rw [if_neg (by simp)]; omega
theorem orB (n : Nat) : IntKind.u8.wrap ((BitVec.ofInt IntKind.u8.bits (IntKind.u8.wrap (n : Int)) ||| BitVec.ofInt IntKind.u8.bits 128).toNat : Int) = ((UInt8.ofNat (n % 128 + 128)).toNat : Int) := by
  have := orAll ⟨n % 256, Nat.mod_lt _ (by decide)⟩
  rw [wrap8 n]
  simp only at this
  rw [show IntKind.u8.bits = 8 from rfl, this, Nat.mod_mod_of_dvd n (by decide : 128 ∣ 256)]
theorem lowB {n : Nat} (h : n < 128) : IntKind.u8.wrap (n : Int) = ((UInt8.ofNat n).toNat : Int) := by
  rw [wrap8, UInt8.toNat_ofNat']
theorem shrB (n : Nat) : ((n : Int).fdiv (2 ^ min (Int.toNat 7) IntKind.u64.bits)) = ((n / 128 : Nat) : Int) := by
  have : (2 : Int) ^ min (Int.toNat 7) IntKind.u64.bits = ((128 : Nat) : Int) := by decide
  rw [this, Int.fdiv_eq_ediv_of_nonneg _ (by simp)]; omega
abbrev bytesA (l : List UInt8) : List (List AV) := l.map byteA
/-- The result is these bytes, in a row of its own. -/
def GivesB (bs : List UInt8) (r : AV) (H : Heap) : Prop := ∃ m, r = .row m false (bytesA bs).length ∧ H = [(m, .row 1 false (bytesA bs))]

theorem octNum_ok (n : Nat) (hn : n < 18446744073709551616) (N0 : Nat) : ACall Try.prog 161 [.fv (.int .u64 n)] N0 [] (fun _ r H' => ∃ H1 Hx, Take H1 H' Hx ∧ GivesB (numF n) r H1) := by
  have hlen := (numF_len 9 n (by omega)).2
  refine ACall.of_body tabOk (tab := tab) (fn := Try.f161) Try.func161 (by kernel_rfl) rfl (by simp [Try.f161]) ?_
  show AWp Try.prog 19 _ N0 [(0, .fv (.int .u64 n))] [] _
  refine AWp.regK fun K1 hK1 => ?_
  refine AOps.read (ARead.assign rfl rfl) rfl rfl rfl ?_
  refine AOps.nil (hK1 _ _ _ ?_); clear hK1 K1
  refine AWp.keep [0] rfl ?_
  refine AWp.regK fun K2 hK2 => ?_
  refine AOps.read (ARead.assign rfl rfl) rfl rfl rfl ?_
  refine AOps.nil (hK2 _ _ _ ?_); clear hK2 K2
  refine AWp.keep [0, 3] rfl ?_
  refine AWp.seqK fun K3 hK3 => ?_
  refine AWp.block ?_
  refine AWp.ghost (Ghost.rowOf (sz := 1) [3] ⟨rfl, trivial⟩ ?_)
  refine AWp.loopP (α := Nat × Bool × List UInt8 × Nat) [0, 3] (fun x N => [(0, .fv (.int .u64 (x.2.2.2 : Nat))), (3, .row x.1 x.2.1 (bytesA x.2.2.1).length)]) (fun x N => [(x.1, .row 1 x.2.1 (bytesA x.2.2.1))]) (fun x N => x.2.2.1 ++ numF x.2.2.2 = numF n ∧ x.2.2.2 < 18446744073709551616) (fun x => x.2.2.2) (N0, true, [], n) rfl (.cons _ _ _ _ _ _ (by repeat (first | exact Has.head _ | apply Has.tail)) (.nil _)) (⟨rfl, hn⟩) (fun x N hN hg K5 hK5 => ?_)
  obtain ⟨hg1, hg2⟩ := hg
  have hgl := congrArg List.length hg1
  rw [List.length_append] at hgl
  refine AWp.seqK fun K6 hK6 => ?_
  refine AWp.regK fun K7 hK7 => ?_
  refine AOps.read (ARead.move rfl rfl) rfl rfl rfl ?_
  refine AOps.read (ARead.binOp rfl rfl rfl rfl) rfl rfl rfl ?_
  refine AOps.nil (hK7 _ _ _ ?_); clear hK7 K7
  refine AWp.keep [0, 3, 5] rfl ?_
  refine AWp.cond rfl (fun hb8 => ?_) (fun hb8 => ?_)
  · have hc8 := hb8; clear hb8; try simp only [decide_eq_true_eq, decide_eq_false_iff_not, Bool.not_eq_true, Bool.not_eq_false, Int.not_lt, Int.not_le, Bool.not_eq_true', Bool.not_eq_false'] at hc8
    have hn1 : 128 ≤ x.2.2.2 := by omega
    refine AWp.skip (hK6 _ _ _ ?_); try clear hK6 K6
    refine AWp.keep [0, 3] rfl ?_
    refine AWp.block ?_
    refine AWp.regK fun K10 hK10 => ?_
    refine AOps.read (ARead.move rfl rfl) rfl rfl rfl ?_
    refine AOps.read (ARead.move rfl rfl) rfl rfl rfl ?_
    refine AOps.read (ARead.convInt tabOk rfl rfl rfl rfl rfl rfl) rfl rfl rfl ?_
    refine AOps.read (ARead.binOp rfl rfl rfl rfl) rfl rfl rfl ?_
    refine AOps.keep [0, 3, 6, 9] rfl ?_
    refine AOps.op1 (AOp.buildSliceC tabOk rfl rfl rfl rfl rfl rfl rfl rfl rfl (by decide) (by decide)) rfl rfl rfl ?_
    refine AOps.op1 (AOp.append tabOk (els' := bytesA (x.2.2.1 ++ [UInt8.ofNat (x.2.2.2 % 128 + 128)])) (nil' := false) rfl rfl rfl rfl rfl rfl rfl rfl (by repeat (first | exact Has.head _ | apply Has.tail)) (by first | exact .fv _ _ _ rfl | exact .row _ _ _ _ rfl (by repeat (first | exact Has.head _ | apply Has.tail)) | exact .flat _ _ _ _ _ _ rfl (by repeat (first | exact Has.head _ | apply Has.tail)) (by first | decide | omega) | exact .arr _ _ _ _ _ _ _ _ rfl (by repeat (first | exact Has.head _ | apply Has.tail)) (by first | decide | omega) | exact .sl0 _ rfl) (by first | rfl | simp [AV.one]) (by simp only [bytesA, List.length_map, List.length_range]; omega) (by simp only [bytesA, List.map_append]; show _ ++ [[AV.fv (.int .u8 _)]] = _; rw [orB]; rfl) (by cases x.2.1 <;> rfl)) rfl rfl rfl ?_
    refine AOps.read (ARead.assign rfl rfl) rfl rfl rfl ?_
    refine AOps.nil (hK10 _ _ _ ?_); clear hK10 K10
    refine AWp.keep [0, 3] rfl ?_
    refine AWp.region ?_
    refine AOps.read (ARead.move rfl rfl) rfl rfl rfl ?_
    refine AOps.read (ARead.shr rfl rfl rfl (by decide)) rfl rfl rfl ?_
    refine AOps.read (ARead.assign rfl rfl) rfl rfl rfl ?_
    (try clear hK10 K10); (try clear hK9 K9); (try clear hK8 K8); (try clear hK7 K7); (try clear hK6 K6); (try clear hK4 K4); (try clear hK3 K3); (try clear hK2 K2); (try clear hK1 K1)
    refine AOps.nil (hK5 _ _ _ (N + 1, false, x.2.2.1 ++ [UInt8.ofNat (x.2.2.2 % 128 + 128)], x.2.2.2 / 128) _ (by rw [shrB]; rfl) (.cons _ _ _ _ _ _ (by repeat (first | exact Has.head _ | apply Has.tail)) (.nil _)) (⟨by rw [List.append_assoc, ← hg1, numF_big hn1]; rfl, by show x.2.2.2 / 128 < _; omega⟩) (by show x.2.2.2 / 128 < x.2.2.2; omega))
  · have hc8 := hb8; clear hb8; try simp only [decide_eq_true_eq, decide_eq_false_iff_not, Bool.not_eq_true, Bool.not_eq_false, Int.not_lt, Int.not_le, Bool.not_eq_true', Bool.not_eq_false'] at hc8
    have hn1 : x.2.2.2 < 128 := by omega
    refine AWp.exit (Or.inl ⟨rfl, (hK3 _ _ _ ?_)⟩); try clear hK3 K3
    refine AWp.keep [0, 3] rfl ?_
    refine AWp.regK fun K11 hK11 => ?_
    refine AOps.read (ARead.move rfl rfl) rfl rfl rfl ?_
    refine AOps.read (ARead.move rfl rfl) rfl rfl rfl ?_
    refine AOps.read (ARead.convInt tabOk rfl rfl rfl rfl rfl rfl) rfl rfl rfl ?_
    refine AOps.op1 (AOp.buildSliceC tabOk rfl rfl rfl rfl rfl rfl rfl rfl rfl (by decide) (by decide)) rfl rfl rfl ?_
    refine AOps.keep [14, 17] rfl ?_
    refine AOps.op1 (AOp.append tabOk (els' := bytesA (x.2.2.1 ++ [UInt8.ofNat x.2.2.2])) (nil' := false) rfl rfl rfl rfl rfl rfl rfl rfl (by repeat (first | exact Has.head _ | apply Has.tail)) (by first | exact .fv _ _ _ rfl | exact .row _ _ _ _ rfl (by repeat (first | exact Has.head _ | apply Has.tail)) | exact .flat _ _ _ _ _ _ rfl (by repeat (first | exact Has.head _ | apply Has.tail)) (by first | decide | omega) | exact .arr _ _ _ _ _ _ _ _ rfl (by repeat (first | exact Has.head _ | apply Has.tail)) (by first | decide | omega) | exact .sl0 _ rfl) (by first | rfl | simp [AV.one]) (by simp only [bytesA, List.length_map, List.length_range]; omega) (by simp only [bytesA, List.map_append]; show _ ++ [[AV.fv (.int .u8 _)]] = _; rw [lowB hn1]; rfl) (by cases x.2.1 <;> rfl)) rfl rfl rfl ?_
    refine AOps.read (ARead.assign rfl rfl) rfl rfl rfl ?_
    refine AOps.nil (hK11 _ _ _ ?_); clear hK11 K11
    refine AWp.keep [2] rfl ?_
    refine AWp.ret ?_
    refine ⟨Or.inr rfl, _, (.tmp _ _ _ _ rfl .nil), ?_⟩
    (try clear hK11 K11); (try clear hK10 K10); (try clear hK9 K9); (try clear hK8 K8); (try clear hK7 K7); (try clear hK6 K6); (try clear hK5 K5); (try clear hK4 K4); (try clear hK3 K3); (try clear hK2 K2); (try clear hK1 K1)
    have hb : x.2.2.1 ++ [UInt8.ofNat x.2.2.2] = numF n := by rw [← hg1, numF_small hn1]
    rw [hb]
    exact ⟨_, _, .cons _ _ _ _ _ _ (.head _) (.nil _), _, rfl, rfl⟩

end Go.Sl
