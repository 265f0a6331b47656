/- Walks of package node, one. No condition beside those in the statements. -/
import Derived.Test.YtfbagkifhpnfjaaOp3
namespace Go.Sl
open Go Go.Proofs 
set_option linter.unusedVariables false
set_option linter.unusedSimpArgs false
set_option maxRecDepth 20000
set_option maxHeartbeats 400000
def intF (k : Int) : List FV := [.int .i64 k]
abbrev ints (nil : Bool) (l : List Int) : AV := .fv (rowsF 1 nil intF 0 l)
abbrev strF (s : Str) : List FV := [.str s]
abbrev strs (nil : Bool) (l : List Str) : AV := .fv (rowsF 1 nil strF [] l)
structure Bf where
  nil : Bool
  l : List En
def bf0 : Bf := ⟨true, []⟩
abbrev bfF (b : Bf) : List FV := [rowsF 7 b.nil enF en0 b.l]
abbrev bfs (nil : Bool) (l : List Bf) : AV := .fv (rowsF 1 nil bfF bf0 l)
structure Nd where
  leaf : Bool
  pn : Bool
  pairs : List Pr
  kn : Bool
  kids : List Int
  vn : Bool
  pivots : List Str
  bn : Bool
  bufs : List Bf
abbrev ndC (n : Nd) : List AV := [vb n.leaf, prs n.pn n.pairs, ints n.kn n.kids, strs n.vn n.pivots, bfs n.bn n.bufs]
abbrev ndA (n : Nd) : AV := .agg (ndC n)
def coversF (alo ahi blo bhi : Str) : Bool := decide (spanCheckF alo ahi = 0 ∧ spanCheckF blo bhi = 0 ∧ sle alo blo = true ∧ leastF ahi bhi = bhi)
def boundLo (v : List Str) (i : Int) : Str := if 0 < i then v.getD (i - 1).toNat [] else []
def boundHi (v : List Str) (i : Int) : Str := if i < v.length then v.getD i.toNat [] else []
def withinF (lo hi : Str) (o : O6) : Bool := if o.kind = 5 then coversF lo hi o.lo o.hi else spanHasF lo hi o.key

theorem covers_ok (alo ahi blo bhi : Str) : APure Try.prog 96 [.agg [vs alo, vs ahi], .agg [vs blo, vs bhi]] (vb (coversF alo ahi blo bhi)) := by
  refine APure.intro fun N0 => ?_
  refine ACall.of_body tabOk (tab := tab) (fn := Try.f96) Try.func96 (by kernel_rfl) rfl (by simp [Try.f96]) ?_
  show AWp Try.prog 30 _ N0 [(0, .agg [vs alo, vs ahi]), (1, .agg [vs blo, vs bhi])] [] _
  refine AWp.regK fun K1 hK1 => ?_
  refine AOps.op1 (AOp.box rfl rfl rfl) rfl rfl rfl ?_
  refine AOps.op1 (AOp.box rfl rfl rfl) rfl rfl rfl ?_
  refine AOps.read (ARead.assign rfl rfl) rfl rfl rfl ?_
  refine AOps.nil (hK1 _ _ _ ?_); clear hK1 K1
  refine AWp.keep [2, 3] rfl ?_
  refine AWp.drawnK mixed (take_all _) fun K2 hK2 => ?_
  refine AAny.take 0 (ARead.load tabOk rfl rfl rfl (by repeat (first | exact Has.head _ | apply Has.tail)) (by first | decide | omega) rfl rfl) rfl (by kernel_rfl) (by kernel_rfl) (by kernel_rfl) rfl rfl rfl ?_
  refine AAny.one 1 (by kernel_rfl) ?_
  refine AStep.pcallC (spanCheck_ok _ _) rfl rfl (by first | exact .inr ⟨rfl, rfl, rfl⟩ | exact .inl rfl) rfl rfl rfl rfl rfl (fun N hN => ?_)
  refine AAny.keep [2, 3, 6] [2, 3, 6] rfl rfl ?_
  refine AAny.take 2 (ARead.binOp rfl rfl rfl rfl) rfl (by kernel_rfl) (by kernel_rfl) (by kernel_rfl) rfl rfl rfl ?_
  refine AAny.take 3 (ARead.move rfl rfl) rfl (by kernel_rfl) (by kernel_rfl) (by kernel_rfl) rfl rfl rfl ?_
  refine AAny.gtake 4 rfl rfl rfl rfl rfl (.cons 3 _ _ _ rfl (by first | exact .strip _ _ id | (refine .strip _ _ (fun h => ?_); simp_all; done) | exact .same _) .nil) (fun hG => ARead.load tabOk rfl rfl rfl (by repeat (first | exact Has.head _ | apply Has.tail)) (by first | decide | omega) rfl rfl) rfl (by kernel_rfl) (by kernel_rfl) (by kernel_rfl) rfl rfl ?_
  refine AAny.keep [2, 3, 8, 9] [2, 3, 8, 9] rfl rfl ?_
  refine AAny.one 5 (by kernel_rfl) ?_
  refine AStep.gpcallC rfl rfl rfl rfl rfl (.cons 9 _ _ _ rfl (by first | exact .strip _ _ id | (refine .strip _ _ (fun h => ?_); simp_all; done) | exact .same _) .nil) rfl (by first | exact .inr ⟨rfl, rfl, rfl⟩ | exact .inl rfl) rfl (fun hG => spanCheck_ok _ _) rfl rfl rfl rfl (fun N hN => ?_)
  refine AAny.gtake 6 rfl rfl rfl rfl rfl (.cons 10 _ _ _ rfl (by first | exact .strip _ _ id | (refine .strip _ _ (fun h => ?_); simp_all; done) | exact .same _) .nil) (fun hG => ARead.binOp rfl rfl rfl rfl) rfl (by kernel_rfl) (by kernel_rfl) (by kernel_rfl) rfl rfl ?_
  first | refine AAny.take 7 (ARead.pickB rfl rfl rfl (by first | exact .strip _ _ id | (refine .strip _ _ (fun h => ?_); simp_all; done) | exact .same _) rfl (by first | exact .strip _ _ id | (refine .strip _ _ (fun h => ?_); simp_all; done) | exact .same _)) rfl (by kernel_rfl) (by kernel_rfl) (by kernel_rfl) rfl rfl rfl ?_ | refine AAny.take 7 (ARead.pick rfl rfl rfl) rfl (by kernel_rfl) (by kernel_rfl) (by kernel_rfl) rfl rfl rfl ?_
  refine AAny.keep [2, 3, 12] [2, 3, 12] rfl rfl ?_
  refine AAny.take 8 (ARead.move rfl rfl) rfl (by kernel_rfl) (by kernel_rfl) (by kernel_rfl) rfl rfl rfl ?_
  refine AAny.gtake 9 rfl rfl rfl rfl rfl (.cons 2 _ _ _ rfl (by first | exact .strip _ _ id | (refine .strip _ _ (fun h => ?_); simp_all; done) | exact .same _) .nil) (fun hG => ARead.fieldAddr tabOk rfl rfl rfl rfl (by decide) rfl) rfl (by kernel_rfl) (by kernel_rfl) (by kernel_rfl) rfl rfl ?_
  refine AAny.gtake 10 rfl rfl rfl rfl rfl (.cons 14 _ _ _ rfl (by first | exact .strip _ _ id | (refine .strip _ _ (fun h => ?_); simp_all; done) | exact .same _) .nil) (fun hG => ARead.load tabOk rfl rfl rfl (by repeat (first | exact Has.head _ | apply Has.tail)) (by first | decide | omega) rfl rfl) rfl (by kernel_rfl) (by kernel_rfl) (by kernel_rfl) rfl rfl ?_
  refine AAny.keep [2, 3, 13, 15] [2, 3, 13, 15] rfl rfl ?_
  refine AAny.gtake 11 rfl rfl rfl rfl rfl (.cons 3 _ _ _ rfl (by first | exact .strip _ _ id | (refine .strip _ _ (fun h => ?_); simp_all; done) | exact .same _) .nil) (fun hG => ARead.fieldAddr tabOk rfl rfl rfl rfl (by decide) rfl) rfl (by kernel_rfl) (by kernel_rfl) (by kernel_rfl) rfl rfl ?_
  refine AAny.gtake 12 rfl rfl rfl rfl rfl (.cons 16 _ _ _ rfl (by first | exact .strip _ _ id | (refine .strip _ _ (fun h => ?_); simp_all; done) | exact .same _) .nil) (fun hG => ARead.load tabOk rfl rfl rfl (by repeat (first | exact Has.head _ | apply Has.tail)) (by first | decide | omega) rfl rfl) rfl (by kernel_rfl) (by kernel_rfl) (by kernel_rfl) rfl rfl ?_
  refine AAny.gtake 13 rfl rfl rfl rfl rfl (.cons 15 _ _ _ rfl (by first | exact .strip _ _ id | (refine .strip _ _ (fun h => ?_); simp_all; done) | exact .same _) (.cons 17 _ _ _ rfl (by first | exact .strip _ _ id | (refine .strip _ _ (fun h => ?_); simp_all; done) | exact .same _) .nil)) (fun hG => ARead.binOp rfl rfl rfl rfl) rfl (by kernel_rfl) (by kernel_rfl) (by kernel_rfl) rfl rfl ?_
  refine AAny.keep [2, 3, 13, 18] [2, 3, 13, 18] rfl rfl ?_
  first | refine AAny.take 14 (ARead.pickB rfl rfl rfl (by first | exact .strip _ _ id | (refine .strip _ _ (fun h => ?_); simp_all; done) | exact .same _) rfl (by first | exact .strip _ _ id | (refine .strip _ _ (fun h => ?_); simp_all; done) | exact .same _)) rfl (by kernel_rfl) (by kernel_rfl) (by kernel_rfl) rfl rfl rfl ?_ | refine AAny.take 14 (ARead.pick rfl rfl rfl) rfl (by kernel_rfl) (by kernel_rfl) (by kernel_rfl) rfl rfl rfl ?_
  refine AAny.take 15 (ARead.move rfl rfl) rfl (by kernel_rfl) (by kernel_rfl) (by kernel_rfl) rfl rfl rfl ?_
  refine AAny.gtake 16 rfl rfl rfl rfl rfl (.cons 2 _ _ _ rfl (by first | exact .strip _ _ id | (refine .strip _ _ (fun h => ?_); simp_all; done) | exact .same _) .nil) (fun hG => ARead.fieldAddr tabOk rfl rfl rfl rfl (by decide) rfl) rfl (by kernel_rfl) (by kernel_rfl) (by kernel_rfl) rfl rfl ?_
  refine AAny.keep [3, 20, 21] [3, 20, 21] rfl rfl ?_
  refine AAny.gtake 17 rfl rfl rfl rfl rfl (.cons 21 _ _ _ rfl (by first | exact .strip _ _ id | (refine .strip _ _ (fun h => ?_); simp_all; done) | exact .same _) .nil) (fun hG => ARead.load tabOk rfl rfl rfl (by repeat (first | exact Has.head _ | apply Has.tail)) (by first | decide | omega) rfl rfl) rfl (by kernel_rfl) (by kernel_rfl) (by kernel_rfl) rfl rfl ?_
  refine AAny.gtake 18 rfl rfl rfl rfl rfl (.cons 3 _ _ _ rfl (by first | exact .strip _ _ id | (refine .strip _ _ (fun h => ?_); simp_all; done) | exact .same _) .nil) (fun hG => ARead.fieldAddr tabOk rfl rfl rfl rfl (by decide) rfl) rfl (by kernel_rfl) (by kernel_rfl) (by kernel_rfl) rfl rfl ?_
  refine AAny.gtake 19 rfl rfl rfl rfl rfl (.cons 23 _ _ _ rfl (by first | exact .strip _ _ id | (refine .strip _ _ (fun h => ?_); simp_all; done) | exact .same _) .nil) (fun hG => ARead.load tabOk rfl rfl rfl (by repeat (first | exact Has.head _ | apply Has.tail)) (by first | decide | omega) rfl rfl) rfl (by kernel_rfl) (by kernel_rfl) (by kernel_rfl) rfl rfl ?_
  refine AAny.keep [3, 20, 22, 24] [3, 20, 22, 24] rfl rfl ?_
  refine AAny.gtake 21 rfl rfl rfl rfl rfl (.cons 3 _ _ _ rfl (by first | exact .strip _ _ id | (refine .strip _ _ (fun h => ?_); simp_all; done) | exact .same _) .nil) (fun hG => ARead.fieldAddr tabOk rfl rfl rfl rfl (by decide) rfl) rfl (by kernel_rfl) (by kernel_rfl) (by kernel_rfl) rfl rfl ?_
  refine AAny.gtake 22 rfl rfl rfl rfl rfl (.cons 26 _ _ _ rfl (by first | exact .strip _ _ id | (refine .strip _ _ (fun h => ?_); simp_all; done) | exact .same _) .nil) (fun hG => ARead.load tabOk rfl rfl rfl (by repeat (first | exact Has.head _ | apply Has.tail)) (by first | decide | omega) rfl rfl) rfl (by kernel_rfl) (by kernel_rfl) (by kernel_rfl) rfl rfl ?_
  refine AAny.one 20 (by kernel_rfl) ?_
  refine AStep.gpcallC rfl rfl rfl rfl rfl (.cons 22 _ _ _ rfl (by first | exact .strip _ _ id | (refine .strip _ _ (fun h => ?_); simp_all; done) | exact .same _) (.cons 24 _ _ _ rfl (by first | exact .strip _ _ id | (refine .strip _ _ (fun h => ?_); simp_all; done) | exact .same _) .nil)) rfl (by first | exact .inr ⟨rfl, rfl, rfl⟩ | exact .inl rfl) rfl (fun hG => least_ok _ _) rfl rfl rfl rfl (fun N hN => ?_)
  refine AAny.keep [20, 25, 27] [20, 25, 27] rfl rfl ?_
  refine AAny.gtake 23 rfl rfl rfl rfl rfl (.cons 25 _ _ _ rfl (by first | exact .strip _ _ id | (refine .strip _ _ (fun h => ?_); simp_all; done) | exact .same _) (.cons 27 _ _ _ rfl (by first | exact .strip _ _ id | (refine .strip _ _ (fun h => ?_); simp_all; done) | exact .same _) .nil)) (fun hG => ARead.binOp rfl rfl rfl rfl) rfl (by kernel_rfl) (by kernel_rfl) (by kernel_rfl) rfl rfl ?_
  first | refine AAny.take 24 (ARead.pickB rfl rfl rfl (by first | exact .strip _ _ id | (refine .strip _ _ (fun h => ?_); simp_all; done) | exact .same _) rfl (by first | exact .strip _ _ id | (refine .strip _ _ (fun h => ?_); simp_all; done) | exact .same _)) rfl (by kernel_rfl) (by kernel_rfl) (by kernel_rfl) rfl rfl rfl ?_ | refine AAny.take 24 (ARead.pick rfl rfl rfl) rfl (by kernel_rfl) (by kernel_rfl) (by kernel_rfl) rfl rfl rfl ?_
  refine AAny.take 25 (ARead.assign rfl rfl) rfl (by kernel_rfl) (by kernel_rfl) (by kernel_rfl) rfl rfl rfl ?_
  refine AAny.done (by kernel_rfl) (hK2 _ _ _ ?_); clear hK2 K2
  try refine AWp.nilApp ?_
  refine AWp.keep [4] rfl ?_
  refine AWp.ret ?_
  refine ⟨Or.inr rfl, _, (.tmp _ _ _ _ rfl .nil), ?_⟩
  (try clear hK2 K2); (try clear hK1 K1)
  show packR _ = _
  grind [packR, coversF]

theorem within_ok (lo hi : Str) (o : O6) : APure Try.prog 83 [.agg [vs lo, vs hi], o6A o] (vb (withinF lo hi o)) := by
  refine APure.intro fun N0 => ?_
  refine ACall.of_body tabOk (tab := tab) (fn := Try.f83) Try.func83 (by kernel_rfl) rfl (by simp [Try.f83]) ?_
  show AWp Try.prog 19 _ N0 [(0, .agg [vs lo, vs hi]), (1, o6A o)] [] _
  refine AWp.regK fun K1 hK1 => ?_
  refine AOps.op1 (AOp.box rfl rfl rfl) rfl rfl rfl ?_
  refine AOps.op1 (AOp.box rfl rfl rfl) rfl rfl rfl ?_
  refine AOps.read (ARead.assign rfl rfl) rfl rfl rfl ?_
  refine AOps.nil (hK1 _ _ _ ?_); clear hK1 K1
  refine AWp.keep [2, 3] rfl ?_
  refine AWp.seqK fun K2 hK2 => ?_
  refine AWp.regK fun K3 hK3 => ?_
  refine AOps.read (ARead.fieldAddr tabOk rfl rfl rfl rfl (by decide) rfl) rfl rfl rfl ?_
  refine AOps.read (ARead.load tabOk rfl rfl rfl (by repeat (first | exact Has.head _ | apply Has.tail)) (by first | decide | omega) rfl rfl) rfl rfl rfl ?_
  refine AOps.read (ARead.binOp rfl rfl rfl rfl) rfl rfl rfl ?_
  refine AOps.nil (hK3 _ _ _ ?_); clear hK3 K3
  refine AWp.keep [2, 3, 7] rfl ?_
  refine AWp.cond rfl (fun hb4 => ?_) (fun hb4 => ?_)
  · have hc4 := hb4; clear hb4; try simp only [decide_eq_true_eq, decide_eq_false_iff_not, Bool.not_eq_true, Bool.not_eq_false, Int.not_lt, Int.not_le, Bool.not_eq_true', Bool.not_eq_false'] at hc4
    refine AWp.regK fun K5 hK5 => ?_
    refine AOps.read (ARead.load tabOk rfl rfl rfl (by repeat (first | exact Has.head _ | apply Has.tail)) (by first | decide | omega) rfl rfl) rfl rfl rfl ?_
    refine AOps.read (ARead.fieldAddr tabOk rfl rfl rfl rfl (by decide) rfl) rfl rfl rfl ?_
    refine AOps.read (ARead.load tabOk rfl rfl rfl (by repeat (first | exact Has.head _ | apply Has.tail)) (by first | decide | omega) rfl rfl) rfl rfl rfl ?_
    refine AOps.read (ARead.fieldAddr tabOk rfl rfl rfl rfl (by decide) rfl) rfl rfl rfl ?_
    refine AOps.keep [8, 10, 11] rfl ?_
    refine AOps.read (ARead.load tabOk rfl rfl rfl (by repeat (first | exact Has.head _ | apply Has.tail)) (by first | decide | omega) rfl rfl) rfl rfl rfl ?_
    refine AOps.read (ARead.build tabOk rfl rfl rfl rfl rfl rfl rfl) rfl rfl rfl ?_
    refine AOps.pcall (covers_ok _ _ _ _) rfl (by first | exact .inr ⟨rfl, rfl, rfl⟩ | exact .inl rfl) rfl rfl rfl rfl (fun N hN => ?_)
    refine AOps.read (ARead.assign rfl rfl) rfl rfl rfl ?_
    refine AOps.nil (hK5 _ _ _ ?_); clear hK5 K5
    refine AWp.keep [4] rfl ?_
    refine AWp.ret ?_
    refine ⟨Or.inr rfl, _, (.tmp _ _ _ _ rfl .nil), ?_⟩
    (try clear hK5 K5); (try clear hK4 K4); (try clear hK3 K3); (try clear hK2 K2); (try clear hK1 K1)
    show packR _ = _
    grind [packR, withinF]
  · have hc4 := hb4; clear hb4; try simp only [decide_eq_true_eq, decide_eq_false_iff_not, Bool.not_eq_true, Bool.not_eq_false, Int.not_lt, Int.not_le, Bool.not_eq_true', Bool.not_eq_false'] at hc4
    refine AWp.skip (hK2 _ _ _ ?_); try clear hK2 K2
    refine AWp.keep [2, 3] rfl ?_
    refine AWp.regK fun K6 hK6 => ?_
    refine AOps.read (ARead.load tabOk rfl rfl rfl (by repeat (first | exact Has.head _ | apply Has.tail)) (by first | decide | omega) rfl rfl) rfl rfl rfl ?_
    refine AOps.read (ARead.fieldAddr tabOk rfl rfl rfl rfl (by decide) rfl) rfl rfl rfl ?_
    refine AOps.read (ARead.load tabOk rfl rfl rfl (by repeat (first | exact Has.head _ | apply Has.tail)) (by first | decide | omega) rfl rfl) rfl rfl rfl ?_
    refine AOps.pcall (spanHas_ok _ _ _) rfl (by first | exact .inr ⟨rfl, rfl, rfl⟩ | exact .inl rfl) rfl rfl rfl rfl (fun N hN => ?_)
    refine AOps.keep [18] rfl ?_
    refine AOps.read (ARead.assign rfl rfl) rfl rfl rfl ?_
    refine AOps.nil (hK6 _ _ _ ?_); clear hK6 K6
    refine AWp.keep [4] rfl ?_
    refine AWp.ret ?_
    refine ⟨Or.inr rfl, _, (.tmp _ _ _ _ rfl .nil), ?_⟩
    (try clear hK6 K6); (try clear hK5 K5); (try clear hK4 K4); (try clear hK3 K3); (try clear hK2 K2); (try clear hK1 K1)
    show packR _ = _
    grind [packR, withinF]

theorem bounds_ok (n : Nd) (i : Int) (h0 : 0 ≤ i) (h1 : i ≤ n.pivots.length) (hl : n.pivots.length ≤ 1073741824) : APure Try.prog 84 [ndA n, vi i] (.agg [vs (boundLo n.pivots i), vs (boundHi n.pivots i)]) := by
  refine APure.intro fun N0 => ?_
  refine ACall.of_body tabOk (tab := tab) (fn := Try.f84) Try.func84 (by kernel_rfl) rfl (by simp [Try.f84]) ?_
  show AWp Try.prog 27 _ N0 [(0, ndA n), (1, vi i)] [] _
  refine AWp.regK fun K1 hK1 => ?_
  refine AOps.op1 (AOp.box rfl rfl rfl) rfl rfl rfl ?_
  refine AOps.op1 (AOp.alloc tabOk rfl rfl rfl) rfl rfl rfl ?_
  refine AOps.nil (hK1 _ _ _ ?_); clear hK1 K1
  refine AWp.keep [1, 2, 4] rfl ?_
  refine AWp.regK fun K2 hK2 => ?_
  refine AOps.op1 (AOp.alloc tabOk rfl rfl rfl) rfl rfl rfl ?_
  refine AOps.nil (hK2 _ _ _ ?_); clear hK2 K2
  refine AWp.keep [1, 2, 4, 5] rfl ?_
  refine AWp.seqK fun K3 hK3 => ?_
  refine AWp.regK fun K4 hK4 => ?_
  refine AOps.read (ARead.move rfl rfl) rfl rfl rfl ?_
  refine AOps.read (ARead.binOp rfl rfl rfl rfl) rfl rfl rfl ?_
  refine AOps.nil (hK4 _ _ _ ?_); clear hK4 K4
  refine AWp.keep [1, 2, 4, 5, 7] rfl ?_
  refine AWp.cond rfl (fun hb5 => ?_) (fun hb5 => ?_)
  · have hc5 := hb5; clear hb5; try simp only [decide_eq_true_eq, decide_eq_false_iff_not, Bool.not_eq_true, Bool.not_eq_false, Int.not_lt, Int.not_le, Bool.not_eq_true', Bool.not_eq_false'] at hc5
    refine AWp.region ?_
    refine AOps.read (ARead.fieldAddr tabOk rfl rfl rfl rfl (by decide) rfl) rfl rfl rfl ?_
    refine AOps.read (ARead.load tabOk rfl rfl rfl (by repeat (first | exact Has.head _ | apply Has.tail)) (by first | decide | omega) rfl rfl) rfl rfl rfl ?_
    refine AOps.read (ARead.move rfl rfl) rfl rfl rfl ?_
    first | refine AOps.read (ARead.binW rfl rfl rfl rfl (i64_ok (by omega) (by omega))) rfl rfl rfl ?_ | refine AOps.read (ARead.binOp rfl rfl rfl rfl) rfl rfl rfl ?_
    refine AOps.keep [1, 2, 4, 5, 9, 11] rfl ?_
    first | refine AOps.read (ARead.indexAddrF tabOk rfl rfl rfl rfl rfl rfl rfl (by omega) (by omega)) rfl rfl rfl ?_ | refine AOps.read (ARead.indexAddr tabOk rfl rfl rfl rfl rfl rfl rfl (by omega) (by omega)) rfl rfl rfl ?_ | refine AOps.read (ARead.indexAddrA tabOk rfl rfl rfl rfl rfl rfl rfl (by omega) (by omega)) rfl rfl rfl ?_
    first | refine AOps.read (ARead.loadF tabOk rfl rfl rfl rfl) rfl rfl rfl ?_ | refine AOps.read (ARead.load tabOk rfl rfl rfl (by repeat (first | exact Has.head _ | apply Has.tail)) (by first | decide | omega) rfl rfl) rfl rfl rfl ?_ | refine AOps.read (ARead.loadC tabOk rfl rfl rfl (by repeat (first | exact Has.head _ | apply Has.tail)) rfl rfl) rfl rfl rfl ?_
    refine AOps.read (ARead.fieldAddr tabOk rfl rfl rfl rfl (by decide) rfl) rfl rfl rfl ?_
    first | refine AOps.op10 (AOp.storeC tabOk rfl rfl rfl rfl (by repeat (first | exact Has.head _ | apply Has.tail)) rfl (Nat.le_of_ble_eq_true rfl) rfl) rfl rfl ?_ | refine AOps.op10 (AOp.store tabOk rfl rfl rfl rfl (by repeat (first | exact Has.head _ | apply Has.tail)) (by first | decide | omega) rfl (by decide) rfl) rfl rfl ?_
    refine AOps.nil (hK3 _ _ _ ?_); try clear hK3 K3
    refine AWp.keep [1, 2, 4, 5] rfl ?_
    refine AWp.seqK fun K6 hK6 => ?_
    refine AWp.regK fun K7 hK7 => ?_
    refine AOps.read (ARead.move rfl rfl) rfl rfl rfl ?_
    refine AOps.read (ARead.fieldAddr tabOk rfl rfl rfl rfl (by decide) rfl) rfl rfl rfl ?_
    refine AOps.read (ARead.load tabOk rfl rfl rfl (by repeat (first | exact Has.head _ | apply Has.tail)) (by first | decide | omega) rfl rfl) rfl rfl rfl ?_
    first | refine AOps.read (ARead.lenSl tabOk rfl rfl rfl rfl rfl) rfl rfl rfl ?_ | refine AOps.read (ARead.lenRow tabOk rfl rfl rfl rfl) rfl rfl rfl ?_
    refine AOps.keep [1, 2, 4, 5, 15, 18] rfl ?_
    refine AOps.read (ARead.binOp rfl rfl rfl rfl) rfl rfl rfl ?_
    refine AOps.nil (hK7 _ _ _ ?_); clear hK7 K7
    refine AWp.keep [1, 2, 4, 5, 19] rfl ?_
    refine AWp.cond rfl (fun hb8 => ?_) (fun hb8 => ?_)
    · have hc8 := hb8; clear hb8; try simp only [decide_eq_true_eq, decide_eq_false_iff_not, Bool.not_eq_true, Bool.not_eq_false, Int.not_lt, Int.not_le, Bool.not_eq_true', Bool.not_eq_false'] at hc8
      refine AWp.region ?_
      refine AOps.read (ARead.fieldAddr tabOk rfl rfl rfl rfl (by decide) rfl) rfl rfl rfl ?_
      refine AOps.read (ARead.load tabOk rfl rfl rfl (by repeat (first | exact Has.head _ | apply Has.tail)) (by first | decide | omega) rfl rfl) rfl rfl rfl ?_
      refine AOps.read (ARead.move rfl rfl) rfl rfl rfl ?_
      first | refine AOps.read (ARead.indexAddrF tabOk rfl rfl rfl rfl rfl rfl rfl (by omega) (by omega)) rfl rfl rfl ?_ | refine AOps.read (ARead.indexAddr tabOk rfl rfl rfl rfl rfl rfl rfl (by omega) (by omega)) rfl rfl rfl ?_ | refine AOps.read (ARead.indexAddrA tabOk rfl rfl rfl rfl rfl rfl rfl (by omega) (by omega)) rfl rfl rfl ?_
      refine AOps.keep [4, 5, 23] rfl ?_
      first | refine AOps.read (ARead.loadF tabOk rfl rfl rfl rfl) rfl rfl rfl ?_ | refine AOps.read (ARead.load tabOk rfl rfl rfl (by repeat (first | exact Has.head _ | apply Has.tail)) (by first | decide | omega) rfl rfl) rfl rfl rfl ?_ | refine AOps.read (ARead.loadC tabOk rfl rfl rfl (by repeat (first | exact Has.head _ | apply Has.tail)) rfl rfl) rfl rfl rfl ?_
      refine AOps.read (ARead.fieldAddr tabOk rfl rfl rfl rfl (by decide) rfl) rfl rfl rfl ?_
      first | refine AOps.op10 (AOp.storeC tabOk rfl rfl rfl rfl (by repeat (first | exact Has.head _ | apply Has.tail)) rfl (Nat.le_of_ble_eq_true rfl) rfl) rfl rfl ?_ | refine AOps.op10 (AOp.store tabOk rfl rfl rfl rfl (by repeat (first | exact Has.head _ | apply Has.tail)) (by first | decide | omega) rfl (by decide) rfl) rfl rfl ?_
      refine AOps.nil (hK6 _ _ _ ?_); try clear hK6 K6
      refine AWp.keep [4, 5] rfl ?_
      refine AWp.regK fun K9 hK9 => ?_
      refine AOps.read (ARead.load tabOk rfl rfl rfl (by repeat (first | exact Has.head _ | apply Has.tail)) (by first | decide | omega) rfl rfl) rfl rfl rfl ?_
      first | refine AOps.op10 (AOp.storeC tabOk rfl rfl rfl rfl (by repeat (first | exact Has.head _ | apply Has.tail)) rfl (Nat.le_of_ble_eq_true rfl) rfl) rfl rfl ?_ | refine AOps.op10 (AOp.store tabOk rfl rfl rfl rfl (by repeat (first | exact Has.head _ | apply Has.tail)) (by first | decide | omega) rfl (by decide) rfl) rfl rfl ?_
      refine AOps.nil (hK9 _ _ _ ?_); clear hK9 K9
      refine AWp.keep [4] rfl ?_
      refine AWp.ret ?_
      refine ⟨Or.inr rfl, _, (.cell _ _ _ _ _ _ _ _ _ _ _ _ _ _ rfl (by repeat (first | exact Has.head _ | apply Has.tail)) (by decide) rfl rfl rfl .nil), ?_⟩
      (try clear hK9 K9); (try clear hK8 K8); (try clear hK7 K7); (try clear hK6 K6); (try clear hK5 K5); (try clear hK4 K4); (try clear hK3 K3); (try clear hK2 K2); (try clear hK1 K1)
      show packR _ = _
      simp_all [packR, boundLo, boundHi, setCells, acells, Z.fv] <;> (intros; omega)
    · have hc8 := hb8; clear hb8; try simp only [decide_eq_true_eq, decide_eq_false_iff_not, Bool.not_eq_true, Bool.not_eq_false, Int.not_lt, Int.not_le, Bool.not_eq_true', Bool.not_eq_false'] at hc8
      refine AWp.skip (hK6 _ _ _ ?_); try clear hK6 K6
      refine AWp.keep [4, 5] rfl ?_
      refine AWp.regK fun K10 hK10 => ?_
      refine AOps.read (ARead.load tabOk rfl rfl rfl (by repeat (first | exact Has.head _ | apply Has.tail)) (by first | decide | omega) rfl rfl) rfl rfl rfl ?_
      first | refine AOps.op10 (AOp.storeC tabOk rfl rfl rfl rfl (by repeat (first | exact Has.head _ | apply Has.tail)) rfl (Nat.le_of_ble_eq_true rfl) rfl) rfl rfl ?_ | refine AOps.op10 (AOp.store tabOk rfl rfl rfl rfl (by repeat (first | exact Has.head _ | apply Has.tail)) (by first | decide | omega) rfl (by decide) rfl) rfl rfl ?_
      refine AOps.nil (hK10 _ _ _ ?_); clear hK10 K10
      refine AWp.keep [4] rfl ?_
      refine AWp.ret ?_
      refine ⟨Or.inr rfl, _, (.cell _ _ _ _ _ _ _ _ _ _ _ _ _ _ rfl (by repeat (first | exact Has.head _ | apply Has.tail)) (by decide) rfl rfl rfl .nil), ?_⟩
      (try clear hK10 K10); (try clear hK9 K9); (try clear hK8 K8); (try clear hK7 K7); (try clear hK6 K6); (try clear hK5 K5); (try clear hK4 K4); (try clear hK3 K3); (try clear hK2 K2); (try clear hK1 K1)
      show packR _ = _
      simp_all [packR, boundLo, boundHi, setCells, acells, Z.fv] <;> (intros; omega)
  · have hc5 := hb5; clear hb5; try simp only [decide_eq_true_eq, decide_eq_false_iff_not, Bool.not_eq_true, Bool.not_eq_false, Int.not_lt, Int.not_le, Bool.not_eq_true', Bool.not_eq_false'] at hc5
    refine AWp.skip (hK3 _ _ _ ?_); try clear hK3 K3
    refine AWp.keep [1, 2, 4, 5] rfl ?_
    refine AWp.seqK fun K11 hK11 => ?_
    refine AWp.regK fun K12 hK12 => ?_
    refine AOps.read (ARead.move rfl rfl) rfl rfl rfl ?_
    refine AOps.read (ARead.fieldAddr tabOk rfl rfl rfl rfl (by decide) rfl) rfl rfl rfl ?_
    refine AOps.read (ARead.load tabOk rfl rfl rfl (by repeat (first | exact Has.head _ | apply Has.tail)) (by first | decide | omega) rfl rfl) rfl rfl rfl ?_
    first | refine AOps.read (ARead.lenSl tabOk rfl rfl rfl rfl rfl) rfl rfl rfl ?_ | refine AOps.read (ARead.lenRow tabOk rfl rfl rfl rfl) rfl rfl rfl ?_
    refine AOps.keep [1, 2, 4, 5, 15, 18] rfl ?_
    refine AOps.read (ARead.binOp rfl rfl rfl rfl) rfl rfl rfl ?_
    refine AOps.nil (hK12 _ _ _ ?_); clear hK12 K12
    refine AWp.keep [1, 2, 4, 5, 19] rfl ?_
    refine AWp.cond rfl (fun hb13 => ?_) (fun hb13 => ?_)
    · have hc13 := hb13; clear hb13; try simp only [decide_eq_true_eq, decide_eq_false_iff_not, Bool.not_eq_true, Bool.not_eq_false, Int.not_lt, Int.not_le, Bool.not_eq_true', Bool.not_eq_false'] at hc13
      refine AWp.region ?_
      refine AOps.read (ARead.fieldAddr tabOk rfl rfl rfl rfl (by decide) rfl) rfl rfl rfl ?_
      refine AOps.read (ARead.load tabOk rfl rfl rfl (by repeat (first | exact Has.head _ | apply Has.tail)) (by first | decide | omega) rfl rfl) rfl rfl rfl ?_
      refine AOps.read (ARead.move rfl rfl) rfl rfl rfl ?_
      first | refine AOps.read (ARead.indexAddrF tabOk rfl rfl rfl rfl rfl rfl rfl (by omega) (by omega)) rfl rfl rfl ?_ | refine AOps.read (ARead.indexAddr tabOk rfl rfl rfl rfl rfl rfl rfl (by omega) (by omega)) rfl rfl rfl ?_ | refine AOps.read (ARead.indexAddrA tabOk rfl rfl rfl rfl rfl rfl rfl (by omega) (by omega)) rfl rfl rfl ?_
      refine AOps.keep [4, 5, 23] rfl ?_
      first | refine AOps.read (ARead.loadF tabOk rfl rfl rfl rfl) rfl rfl rfl ?_ | refine AOps.read (ARead.load tabOk rfl rfl rfl (by repeat (first | exact Has.head _ | apply Has.tail)) (by first | decide | omega) rfl rfl) rfl rfl rfl ?_ | refine AOps.read (ARead.loadC tabOk rfl rfl rfl (by repeat (first | exact Has.head _ | apply Has.tail)) rfl rfl) rfl rfl rfl ?_
      refine AOps.read (ARead.fieldAddr tabOk rfl rfl rfl rfl (by decide) rfl) rfl rfl rfl ?_
      first | refine AOps.op10 (AOp.storeC tabOk rfl rfl rfl rfl (by repeat (first | exact Has.head _ | apply Has.tail)) rfl (Nat.le_of_ble_eq_true rfl) rfl) rfl rfl ?_ | refine AOps.op10 (AOp.store tabOk rfl rfl rfl rfl (by repeat (first | exact Has.head _ | apply Has.tail)) (by first | decide | omega) rfl (by decide) rfl) rfl rfl ?_
      refine AOps.nil (hK11 _ _ _ ?_); try clear hK11 K11
      refine AWp.keep [4, 5] rfl ?_
      refine AWp.regK fun K14 hK14 => ?_
      refine AOps.read (ARead.load tabOk rfl rfl rfl (by repeat (first | exact Has.head _ | apply Has.tail)) (by first | decide | omega) rfl rfl) rfl rfl rfl ?_
      first | refine AOps.op10 (AOp.storeC tabOk rfl rfl rfl rfl (by repeat (first | exact Has.head _ | apply Has.tail)) rfl (Nat.le_of_ble_eq_true rfl) rfl) rfl rfl ?_ | refine AOps.op10 (AOp.store tabOk rfl rfl rfl rfl (by repeat (first | exact Has.head _ | apply Has.tail)) (by first | decide | omega) rfl (by decide) rfl) rfl rfl ?_
      refine AOps.nil (hK14 _ _ _ ?_); clear hK14 K14
      refine AWp.keep [4] rfl ?_
      refine AWp.ret ?_
      refine ⟨Or.inr rfl, _, (.cell _ _ _ _ _ _ _ _ _ _ _ _ _ _ rfl (by repeat (first | exact Has.head _ | apply Has.tail)) (by decide) rfl rfl rfl .nil), ?_⟩
      (try clear hK14 K14); (try clear hK13 K13); (try clear hK12 K12); (try clear hK11 K11); (try clear hK10 K10); (try clear hK9 K9); (try clear hK8 K8); (try clear hK7 K7); (try clear hK6 K6); (try clear hK5 K5); (try clear hK4 K4); (try clear hK3 K3); (try clear hK2 K2); (try clear hK1 K1)
      show packR _ = _
      simp_all [packR, boundLo, boundHi, setCells, acells, Z.fv] <;> (intros; omega)
    · have hc13 := hb13; clear hb13; try simp only [decide_eq_true_eq, decide_eq_false_iff_not, Bool.not_eq_true, Bool.not_eq_false, Int.not_lt, Int.not_le, Bool.not_eq_true', Bool.not_eq_false'] at hc13
      refine AWp.skip (hK11 _ _ _ ?_); try clear hK11 K11
      refine AWp.keep [4, 5] rfl ?_
      refine AWp.regK fun K15 hK15 => ?_
      refine AOps.read (ARead.load tabOk rfl rfl rfl (by repeat (first | exact Has.head _ | apply Has.tail)) (by first | decide | omega) rfl rfl) rfl rfl rfl ?_
      first | refine AOps.op10 (AOp.storeC tabOk rfl rfl rfl rfl (by repeat (first | exact Has.head _ | apply Has.tail)) rfl (Nat.le_of_ble_eq_true rfl) rfl) rfl rfl ?_ | refine AOps.op10 (AOp.store tabOk rfl rfl rfl rfl (by repeat (first | exact Has.head _ | apply Has.tail)) (by first | decide | omega) rfl (by decide) rfl) rfl rfl ?_
      refine AOps.nil (hK15 _ _ _ ?_); clear hK15 K15
      refine AWp.keep [4] rfl ?_
      refine AWp.ret ?_
      refine ⟨Or.inr rfl, _, (.cell _ _ _ _ _ _ _ _ _ _ _ _ _ _ rfl (by repeat (first | exact Has.head _ | apply Has.tail)) (by decide) rfl rfl rfl .nil), ?_⟩
      (try clear hK15 K15); (try clear hK14 K14); (try clear hK13 K13); (try clear hK12 K12); (try clear hK11 K11); (try clear hK10 K10); (try clear hK9 K9); (try clear hK8 K8); (try clear hK7 K7); (try clear hK6 K6); (try clear hK5 K5); (try clear hK4 K4); (try clear hK3 K3); (try clear hK2 K2); (try clear hK1 K1)
      show packR _ = _
      simp_all [packR, boundLo, boundHi, setCells, acells, Z.fv] <;> (intros; omega)

end Go.Sl
