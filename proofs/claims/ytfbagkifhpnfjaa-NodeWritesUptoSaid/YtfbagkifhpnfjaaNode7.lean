/- Walks of packages octet and node: texts, fields. No condition beside those in the statements. -/
import Derived.Test.YtfbagkifhpnfjaaNode6
namespace Go.Sl
open Go Go.Proofs 
set_option linter.unusedVariables false
set_option linter.unusedSimpArgs false
set_option maxRecDepth 20000
set_option maxHeartbeats 400000
theorem octNum_gives (n : Nat) (hn : n < 18446744073709551616) (N : Nat) : ACall Try.prog 161 [.fv (.int .u64 n)] N [] fun _ r H' => GivesB (numF n) r H' :=
  ACall.forget (octNum_ok n hn N)
theorem numF_short {n : Nat} (h : n < 18446744073709551616) : (numF n).length ≤ 10 := (numF_len 9 n (by omega)).2
theorem numF_ne (n : Nat) : (bytesA (numF n)).isEmpty = false := by
  by_cases h : 128 ≤ n
  · rw [numF_big h]; rfl
  · rw [numF_small (by omega)]; rfl
theorem bytesA_app (a b : List UInt8) : bytesA a ++ bytesA b = bytesA (a ++ b) := (List.map_append ..).symm
def textsF (l : List Str) : List UInt8 := l.flatMap textF

theorem octText_ok (s : Str) (hs : s.length ≤ 1073741800) (N0 : Nat) : ACall Try.prog 162 [vs s] N0 [] (fun _ r H' => ∃ H1 Hx, Take H1 H' Hx ∧ GivesB (textF s) r H1) := by
  refine ACall.of_body tabOk (tab := tab) (fn := Try.f162) Try.func162 (by kernel_rfl) rfl (by simp [Try.f162]) ?_
  show AWp Try.prog 9 _ N0 [(0, vs s)] [] _
  refine AWp.regK fun K1 hK1 => ?_
  refine AOps.read (ARead.assign rfl rfl) rfl rfl rfl ?_
  refine AOps.nil (hK1 _ _ _ ?_); clear hK1 K1
  refine AWp.keep [0] rfl ?_
  refine AWp.regK fun K2 hK2 => ?_
  refine AOps.read (ARead.move rfl rfl) rfl rfl rfl ?_
  refine AOps.read (ARead.lenStr tabOk rfl rfl rfl rfl) rfl rfl rfl ?_
  first | refine AOps.read (ARead.convW tabOk rfl rfl rfl rfl rfl rfl (u64_ok (by omega) (by omega))) rfl rfl rfl ?_ | refine AOps.read (ARead.convInt tabOk rfl rfl rfl rfl rfl rfl) rfl rfl rfl ?_
  refine AOps.op ((AOp.call rfl (.inr ⟨rfl, rfl, rfl⟩) rfl (octNum_gives s.length (by omega) _)).frame (.nil _)) rfl rfl rfl ?_
  rintro N1 r1 H1 hN1 ⟨H1x, ⟨m1, rfl, rfl⟩, rfl⟩
  refine AOps.keep [0, 6] rfl ?_
  refine AOps.read (ARead.move rfl rfl) rfl rfl rfl ?_
  refine AOps.op1 (AOp.appendStr tabOk rfl rfl rfl rfl rfl rfl rfl rfl rfl rfl rfl (by repeat (first | exact Has.head _ | apply Has.tail)) rfl (by have := numF_short (n := s.length) (by omega); simp only [bytesA, List.length_map]; omega) (bytesA_app _ _) rfl) rfl rfl rfl ?_
  refine AOps.read (ARead.assign rfl rfl) rfl rfl rfl ?_
  refine AOps.nil (hK2 _ _ _ ?_); clear hK2 K2
  refine AWp.keep [2] rfl ?_
  refine AWp.ret ?_
  refine ⟨Or.inr rfl, _, (.tmp _ _ _ _ rfl .nil), ?_⟩
  (try clear hK2 K2); (try clear hK1 K1)
  exact ⟨_, _, .cons _ _ _ _ _ _ (.head _) (.nil _), _, rfl, rfl⟩

theorem octText_gives (s : Str) (hs : s.length ≤ 1073741800) (N : Nat) : ACall Try.prog 162 [vs s] N [] fun _ r H' => GivesB (textF s) r H' :=
  ACall.forget (octText_ok s hs N)
theorem textF_ne (s : Str) : (bytesA (textF s)).isEmpty = false := by
  have := numF_ne s.length
  simp only [textF]
  rw [← bytesA_app]
  cases h : bytesA (numF s.length) with
  | nil => rw [h] at this; cases this
  | cons a b => rfl

theorem nodeNum_ok (bs : List UInt8) (n : Nat) (hn : n < 18446744073709551616) (hb : bs.length + (numF n).length ≤ 1073741824) (m : Nat) (N0 : Nat) : ACall Try.prog 130 [.row m false (bytesA bs).length, .fv (.int .u64 n)] N0 [(m, .row 1 false (bytesA bs))] (fun _ r H' => ∃ H1 Hx, Take H1 H' Hx ∧ GivesB (bs ++ numF n) r H1) := by
  refine ACall.of_body tabOk (tab := tab) (fn := Try.f130) Try.func130 (by kernel_rfl) rfl (by simp [Try.f130]) ?_
  show AWp Try.prog 9 _ N0 [(0, .row m false (bytesA bs).length), (1, .fv (.int .u64 n))] [(m, .row 1 false (bytesA bs))] _
  refine AWp.regK fun K1 hK1 => ?_
  refine AOps.read (ARead.assign rfl rfl) rfl rfl rfl ?_
  refine AOps.nil (hK1 _ _ _ ?_); clear hK1 K1
  refine AWp.keep [0, 1] rfl ?_
  refine AWp.regK fun K2 hK2 => ?_
  refine AOps.read (ARead.move rfl rfl) rfl rfl rfl ?_
  refine AOps.read (ARead.move rfl rfl) rfl rfl rfl ?_
  refine AOps.op ((AOp.call rfl (.inr ⟨rfl, rfl, rfl⟩) rfl (octNum_gives n hn _)).frame (.nil _)) rfl rfl rfl ?_
  rintro N1 r1 H1 hN1 ⟨H1x, ⟨m1, rfl, rfl⟩, rfl⟩
  refine AOps.op1 (AOp.append tabOk (els' := bytesA (bs ++ numF n)) (nil' := false) rfl rfl rfl rfl rfl rfl rfl rfl (by repeat (first | exact Has.head _ | apply Has.tail)) (by first | exact .fv _ _ _ rfl | exact .row _ _ _ _ rfl (by repeat (first | exact Has.head _ | apply Has.tail)) | exact .flat _ _ _ _ _ _ rfl (by repeat (first | exact Has.head _ | apply Has.tail)) (by first | decide | omega) | exact .arr _ _ _ _ _ _ _ _ rfl (by repeat (first | exact Has.head _ | apply Has.tail)) (by first | decide | omega) | exact .sl0 _ rfl) (by first | rfl | simp [AV.one]) (by simp only [bytesA, List.length_map]; omega) (bytesA_app _ _) rfl) rfl rfl rfl ?_
  refine AOps.keep [8] rfl ?_
  refine AOps.read (ARead.assign rfl rfl) rfl rfl rfl ?_
  refine AOps.nil (hK2 _ _ _ ?_); clear hK2 K2
  refine AWp.keep [4] rfl ?_
  refine AWp.ret ?_
  refine ⟨Or.inr rfl, _, (.tmp _ _ _ _ rfl .nil), ?_⟩
  (try clear hK2 K2); (try clear hK1 K1)
  exact ⟨_, _, .cons _ _ _ _ _ _ (.head _) (.nil _), _, rfl, rfl⟩

theorem nodeNum_gives (bs : List UInt8) (n : Nat) (hn : n < 18446744073709551616) (hb : bs.length + (numF n).length ≤ 1073741824) (m N : Nat) : ACall Try.prog 130 [.row m false (bytesA bs).length, .fv (.int .u64 n)] N [(m, .row 1 false (bytesA bs))] fun _ r H' => GivesB (bs ++ numF n) r H' :=
  ACall.forget (nodeNum_ok bs n hn hb m N)

theorem nodeText_ok (bs : List UInt8) (nil : Bool) (l : List Str) (hl : l.length ≤ 1073741824) (hs : ∀ s ∈ l, s.length ≤ 1073741800) (hb : bs.length + (textsF l).length ≤ 1073741824) (m : Nat) (N0 : Nat) : ACall Try.prog 131 [.row m false (bytesA bs).length, strs nil l] N0 [(m, .row 1 false (bytesA bs))] (fun _ r H' => ∃ H1 Hx, Take H1 H' Hx ∧ GivesB (bs ++ textsF l) r H1) := by
  refine ACall.of_body tabOk (tab := tab) (fn := Try.f131) Try.func131 (by kernel_rfl) rfl (by simp [Try.f131]) ?_
  show AWp Try.prog 19 _ N0 [(0, .row m false (bytesA bs).length), (1, strs nil l)] [(m, .row 1 false (bytesA bs))] _
  refine AWp.regK fun K1 hK1 => ?_
  refine AOps.read (ARead.assign rfl rfl) rfl rfl rfl ?_
  refine AOps.nil (hK1 _ _ _ ?_); clear hK1 K1
  refine AWp.keep [0, 1] rfl ?_
  refine AWp.seqK fun K2 hK2 => ?_
  refine AWp.regK fun K3 hK3 => ?_
  refine AOps.read (ARead.move rfl rfl) rfl rfl rfl ?_
  refine AOps.read (ARead.lenSl tabOk rfl rfl rfl rfl rfl) rfl rfl rfl ?_
  refine AOps.read (ARead.move rfl rfl) rfl rfl rfl ?_
  refine AOps.nil (hK3 _ _ _ ?_); clear hK3 K3
  refine AWp.keep [0, 7, 8, 9] rfl ?_
  refine AWp.block ?_
  refine AWp.loopP (α := Nat × Nat × List UInt8) [0, 7, 8, 9] (fun x N => [(0, .row x.2.1 false (bytesA x.2.2).length), (7, strs nil l), (8, vi l.length), (9, vi x.1)]) (fun x N => [(x.2.1, .row 1 false (bytesA x.2.2))]) (fun x N => x.1 ≤ l.length ∧ x.2.2 ++ textsF (l.drop x.1) = bs ++ textsF l) (fun x => l.length - x.1) (0, m, bs) rfl (.cons _ _ _ _ _ _ (by repeat (first | exact Has.head _ | apply Has.tail)) (.nil _)) (⟨Nat.zero_le _, rfl⟩) (fun x N hN hg K5 hK5 => ?_)
  obtain ⟨hg1, hg2⟩ := hg
  refine AWp.regK fun K6 hK6 => ?_
  refine AOps.read (ARead.binOp rfl rfl rfl rfl) rfl rfl rfl ?_
  refine AOps.nil (hK6 _ _ _ ?_); clear hK6 K6
  refine AWp.keep [0, 7, 8, 9, 10] rfl ?_
  refine AWp.seqK fun K7 hK7 => ?_
  refine AWp.cond rfl (fun hb8 => ?_) (fun hb8 => ?_)
  · have hc8 := hb8; clear hb8; try simp only [decide_eq_true_eq, decide_eq_false_iff_not, Bool.not_eq_true, Bool.not_eq_false, Int.not_lt, Int.not_le, Bool.not_eq_true', Bool.not_eq_false'] at hc8
    have hlt : x.1 < l.length := by omega
    rw [drop_getD [] hlt, textsF, List.flatMap_cons, ← textsF] at hg2
    have hgl := congrArg List.length hg2
    simp only [List.length_append] at hgl
    refine AWp.skip (hK7 _ _ _ ?_); try clear hK7 K7
    refine AWp.keep [0, 7, 8, 9] rfl ?_
    refine AWp.seqK fun K9 hK9 => ?_
    refine AWp.block ?_
    refine AWp.regK fun K11 hK11 => ?_
    refine AOps.read (ARead.indexAddrF tabOk rfl rfl rfl rfl rfl rfl rfl (by omega) (by omega)) rfl rfl rfl ?_
    refine AOps.read (ARead.loadF tabOk rfl rfl rfl rfl) rfl rfl rfl ?_
    refine AOps.read (ARead.assign rfl rfl) rfl rfl rfl ?_
    refine AOps.nil (hK11 _ _ _ ?_); clear hK11 K11
    refine AWp.keep [0, 6, 7, 8, 9] rfl ?_
    refine AWp.region ?_
    refine AOps.read (ARead.move rfl rfl) rfl rfl rfl ?_
    refine AOps.read (ARead.move rfl rfl) rfl rfl rfl ?_
    refine AOps.op ((AOp.call rfl (.inr ⟨rfl, rfl, rfl⟩) rfl (octText_gives (l.getD x.1 []) (hs _ (getD_mem hlt)) _)).frame (.nil _)) rfl rfl rfl ?_
    rintro N1 r1 H1 hN1 ⟨H1x, ⟨m1, rfl, rfl⟩, rfl⟩
    refine AOps.op1 (AOp.append tabOk (els' := bytesA (x.2.2 ++ textF (l.getD x.1 []))) (nil' := false) rfl rfl rfl rfl rfl rfl rfl rfl (by repeat (first | exact Has.head _ | apply Has.tail)) (by first | exact .fv _ _ _ rfl | exact .row _ _ _ _ rfl (by repeat (first | exact Has.head _ | apply Has.tail)) | exact .flat _ _ _ _ _ _ rfl (by repeat (first | exact Has.head _ | apply Has.tail)) (by first | decide | omega) | exact .arr _ _ _ _ _ _ _ _ rfl (by repeat (first | exact Has.head _ | apply Has.tail)) (by first | decide | omega) | exact .sl0 _ rfl) (by first | rfl | simp [AV.one]) (by simp only [bytesA, List.length_map]; omega) (bytesA_app _ _) rfl) rfl rfl rfl ?_
    refine AOps.keep [0, 7, 8, 9, 16] rfl ?_
    refine AOps.read (ARead.assign rfl rfl) rfl rfl rfl ?_
    refine AOps.nil (hK9 _ _ _ ?_); try clear hK9 K9
    refine AWp.keep [0, 7, 8, 9] rfl ?_
    refine AWp.region ?_
    first | refine AOps.read (ARead.binW rfl rfl rfl rfl (i64_ok (by omega) (by omega))) rfl rfl rfl ?_ | refine AOps.read (ARead.binOp rfl rfl rfl rfl) rfl rfl rfl ?_
    refine AOps.read (ARead.move rfl rfl) rfl rfl rfl ?_
    (try clear hK11 K11); (try clear hK10 K10); (try clear hK9 K9); (try clear hK8 K8); (try clear hK7 K7); (try clear hK6 K6); (try clear hK4 K4); (try clear hK3 K3); (try clear hK2 K2); (try clear hK1 K1)
    refine AOps.nil (hK5 _ _ _ (x.1 + 1, N1, x.2.2 ++ textF (l.getD x.1 [])) _ (by rfl) (.cons _ _ _ _ _ _ (by repeat (first | exact Has.head _ | apply Has.tail)) (.nil _)) (⟨by omega, by rw [← hg2, List.append_assoc]⟩) (by show _ - (x.1 + 1) < _; omega))
  · have hc8 := hb8; clear hb8; try simp only [decide_eq_true_eq, decide_eq_false_iff_not, Bool.not_eq_true, Bool.not_eq_false, Int.not_lt, Int.not_le, Bool.not_eq_true', Bool.not_eq_false'] at hc8
    rw [List.drop_of_length_le (by omega)] at hg2
    have hg3 : x.2.2 = bs ++ textsF l := by rw [← hg2]; simp [textsF]
    refine AWp.exit (Or.inl ⟨rfl, (hK2 _ _ _ ?_)⟩); try clear hK2 K2
    refine AWp.keep [0] rfl ?_
    refine AWp.regK fun K12 hK12 => ?_
    refine AOps.read (ARead.move rfl rfl) rfl rfl rfl ?_
    refine AOps.read (ARead.assign rfl rfl) rfl rfl rfl ?_
    refine AOps.nil (hK12 _ _ _ ?_); clear hK12 K12
    refine AWp.keep [4] rfl ?_
    refine AWp.ret ?_
    refine ⟨Or.inr rfl, _, (.tmp _ _ _ _ rfl .nil), ?_⟩
    (try clear hK12 K12); (try clear hK11 K11); (try clear hK10 K10); (try clear hK9 K9); (try clear hK8 K8); (try clear hK7 K7); (try clear hK6 K6); (try clear hK5 K5); (try clear hK4 K4); (try clear hK3 K3); (try clear hK2 K2); (try clear hK1 K1)
    rw [hg3]
    exact ⟨_, _, .cons _ _ _ _ _ _ (.head _) (.nil _), _, rfl, rfl⟩

theorem nodeText_gives (bs : List UInt8) (nil : Bool) (l : List Str) (hl : l.length ≤ 1073741824) (hs : ∀ s ∈ l, s.length ≤ 1073741800) (hb : bs.length + (textsF l).length ≤ 1073741824) (m N : Nat) :
    ACall Try.prog 131 [.row m false (bytesA bs).length, strs nil l] N [(m, .row 1 false (bytesA bs))] fun _ r H' => GivesB (bs ++ textsF l) r H' :=
  ACall.forget (nodeText_ok bs nil l hl hs hb m N)
/-- Which of an entry's cells an operation's texts are. -/
def fieldsO (k : Int) : List Nat := if k = 2 then [2, 3] else if k = 3 then [2] else if k = 5 then [4, 5] else []

end Go.Sl
