/- Rules on variables told as rows of cells, pointers told by one number. No condition. -/
import Derived.Test.YtfbagkifhpnfjaaSl20
namespace Go.Sl
open Go
set_option linter.unusedVariables false
set_option linter.unusedSimpArgs false
variable {P : Program}

theorem VR.canon {w : World} {F : Nat → Prop} {ρ : Nat → Nat} {N n sz i j sz' i' j' : Nat} {v : Value} (h : VR w F ρ N (.ptr n sz i j) v) (he : i * sz + j = i' * sz' + j') : VR w F ρ N (.ptr n sz' i' j') v := by
  obtain ⟨rfl, hn⟩ := h.ptr_inv
  rw [he]; exact .ptr _ _ _ _ hn

theorem AOp.revalue {nt N N1 : Nat} {o : Oper} {fr : Frame} {H H1 : Heap} {r1 r2 : AV} (h : AOp P nt o N fr H fun N' r H' => N' = N1 ∧ r = r1 ∧ H' = H1) (hv : ∀ w F ρ M v, VR w F ρ M r1 v → VR w F ρ M r2 v) :
    AOp P nt o N fr H fun N' r H' => N' = N1 ∧ r = r2 ∧ H' = H1 := by
  intro c a hN hs next Q hk
  exact h c a hN hs next Q fun v c' r H' h1 h2 h3 h4 => by
    obtain ⟨e1, rfl, e3⟩ := h4
    exact hk v c' r2 H' h1 h2 (hv _ _ _ _ _ h3) ⟨e1, rfl, e3⟩

theorem ARead.revalue {nt N : Nat} {o : Oper} {fr : Frame} {H : Heap} {r1 r2 : AV} (h : ARead P nt o N fr H r1) (hv : ∀ w F ρ M v, VR w F ρ M r1 v → VR w F ρ M r2 v) : ARead P nt o N fr H r2 := by
  intro c a hN hs
  obtain ⟨v, h1, h2⟩ := h c a hN hs
  exact ⟨v, h1, hv _ _ _ _ _ h2⟩

section
variable {tab : TypeId → Option TD} (T : TabOk P tab) {nt N : Nat} {o : Oper} {fr : Frame} {H Hr : Heap}
include T

theorem ARead.indexAddrAC {t e : TypeId} {td ed : TD} {x y : Operand} {n sz i j len : Nat} {k : IntKind} {m : Int} (ho : o.op = .indexAddr t x y) (ht : tab t = some td) (hk : td.kind = .arr len e) (he : tab e = some ed)
    (hx : aev fr x = some (.ptr n sz i j)) (hy : aev fr y = some (.fv (.int k m))) (h0 : 0 ≤ m) (h1 : m < len) : ARead P nt o N fr H (.ptr n 0 0 (i * sz + j + m.toNat * ed.size)) := by
  intro c a hN hs
  obtain ⟨desc, _, hu, hkk⟩ := run_under T ht
  rw [hk] at hkk
  obtain rfl := kind_arr hkk
  obtain ⟨hv, hn⟩ := (aev_ok hs hx).ptr_inv
  have hiv := (aev_ok hs hy).int_inv
  have hes := run_sizeOf' T he
  refine ⟨.pointer (some ⟨c.ρ n, 0 * 0 + (i * sz + j + m.toNat * ed.size), none⟩), fun w' hw' => ?_, .ptr _ _ _ _ hn⟩
  have e1 : (⟨c.ρ n, i * sz + j, none⟩ : Addr).add (m.toNat * ed.size) = ⟨c.ρ n, i * sz + j + m.toNat * ed.size, none⟩ := add_mk ..
  simp [execOp, ho, Instr.indexAt, hu, hv, hiv, asIntOf, h0, h1, hes, e1, Instr.sureAddr]

theorem ARead.sliceArrC {t e : TypeId} {td ed : TD} {x : Operand} {lo hi : Option Operand} {n sz0 i0 j0 sz i m : Nat} {l h : Nat} (ho : o.op = .slice t x lo hi none) (ht : tab t = some td) (hk : td.kind = .arr m e) (he : tab e = some ed) (hsz : ed.size = sz)
    (hx : aev fr x = some (.ptr n sz0 i0 j0)) (hoff : i0 * sz0 + j0 = i * sz) (h1 : ABnd fr lo 0 l) (h2 : ABnd fr hi m h) (hl : l ≤ h) (hh : h ≤ m) : ARead P nt o N fr H (.sl n sz (i + l) (h - l) (some (m - l))) := by
  intro c a hN hs
  obtain ⟨desc, _, hu, hkk⟩ := run_under T ht
  rw [hk] at hkk
  obtain rfl := kind_arr hkk
  obtain ⟨hv, hn⟩ := (aev_ok hs hx).ptr_inv
  rw [show i0 * sz0 + j0 = i * sz + 0 from hoff] at hv
  have hb := fun w => run_bounds (P := P) hs (isS := false) (cap := m) h1 h2 hl hh w
  have hes := run_sizeOf' T he
  rw [hsz] at hes
  refine ⟨.slice (some (if m = l then ⟨c.ρ n, i * sz + 0, none⟩ else (⟨c.ρ n, i * sz + 0, none⟩ : Addr).add (l * sz))) (h - l) (m - l), fun w' hw' => ?_, .sl _ _ _ _ _ _ _ hn (by omega) (fun k hk => by simpa using hk.symm) ?_⟩
  · simp [execOp, ho, Instr.sliceAt, hu, hv, Instr.sureAddr, hb, hes]
  · intro h0
    rw [if_neg (by omega), add_mk, Nat.add_mul, Nat.add_zero]

theorem ARead.loadC {t : TypeId} {td : TD} {x : Operand} {n sz0 i0 j0 : Nat} {cs : List AV} {r : AV} (ho : o.op = .load t x) (ht : tab t = some td) (hx : aev fr x = some (.ptr n sz0 i0 j0))
    (hh : Has n (vr cs) H Hr) (hr : apart td.kind.agg (i0 * sz0 + j0) td.size cs = some r) (hp : (bif td.kind.agg then ((cs.drop (i0 * sz0 + j0)).take td.size) else [r]).all AV.plain = true) : ARead P nt o N fr H r := by
  intro c a hN hs
  obtain ⟨hv, _⟩ := (aev_ok hs hx).ptr_inv
  obtain ⟨B, hor, hmem⟩ := hh.own hs.st rfl
  obtain ⟨v, hrun, hvr⟩ := run_loadOR T hor (i := 0) (by omega) ht hr hp
  refine ⟨v, fun w' hw' => ?_, hvr⟩
  have := hrun w' (hw' _ (.inr hmem))
  rw [Nat.zero_mul, Nat.zero_add] at this
  simp [execOp, ho, hv, Instr.loadAt, Instr.sureAddr, this]

theorem ARead.loadRowC {t : TypeId} {td : TD} {x : Operand} {n sz0 i0 j0 sz i j : Nat} {els : List (List AV)} {r : AV} (ho : o.op = .load t x) (ht : tab t = some td) (hx : aev fr x = some (.ptr n sz0 i0 j0)) (hoff : i0 * sz0 + j0 = i * sz + j)
    (hh : Has n (.row sz false els) H Hr) (hi : i < els.length) (hr : apart td.kind.agg j td.size (els.getD i []) = some r) (hp : (bif td.kind.agg then (((els.getD i []).drop j).take td.size) else [r]).all AV.plain = true) : ARead P nt o N fr H r := by
  intro c a hN hs
  obtain ⟨hv, _⟩ := (aev_ok hs hx).ptr_inv
  rw [hoff] at hv
  obtain ⟨B, hor⟩ := hh.mem hs.st.hr
  obtain ⟨Own, _, _, hmem, _⟩ := hs.st.rowArr hh
  obtain ⟨v, hrun, hvr⟩ := run_loadOR T hor.rowArr hi ht hr hp
  refine ⟨v, fun w' hw' => ?_, hvr⟩
  have := hrun w' (hw' _ (.inr hmem))
  simp [execOp, ho, hv, Instr.loadAt, Instr.sureAddr, this]

theorem AOp.storeG {t : TypeId} {td : TD} {x y : Operand} {n sz0 i0 j0 sz len i j : Nat} {g : Nat → List AV} {tight : Bool} {r : AV} (ho : o.op = .store t x y) (ht : tab t = some td) (hx : aev fr x = some (.ptr n sz0 i0 j0)) (hoff : i0 * sz0 + j0 = i * sz + j) (hy : aev fr y = some r)
    (hh : Has n (.arr sz len g tight) H Hr) (hi : i < len) (hsz : (acells r).length = td.size) (hj : j + td.size ≤ sz) (hone : (acells r).all AV.one = true) :
    AOp P nt o N fr H fun N' r' H' => N' = N ∧ r' = .junk ∧ H' = (n, .arr sz len (updG g i (setCells (g i) j (acells r))) tight) :: Hr := by
  intro c a hN hs next Q hk
  subst hN
  obtain ⟨hv, hn⟩ := (aev_ok hs hx).ptr_inv
  rw [hoff] at hv
  have hrs : r.sound = true := by
    cases r <;> simp_all [acells, AV.one, AV.sound]
  obtain ⟨hl, hval⟩ := acells_ok (aev_ok hs hy) hrs
  obtain ⟨B0, hor⟩ := hh.mem hs.st.hr
  have hszz := run_sizeOf' T ht
  have hglen : (g i).length = sz := by
    cases hor with | arr _ _ _ _ _ _ _ _ _ _ _ _ _ _ hsz' => exact hsz' i hi
  have hbnd : ∀ cells ty fz, c.w.heap[c.ρ n]? = some (.cells cells ty fz) → len * sz ≤ cells.size := by
    intro cells ty fz hb
    cases hor with
    | arr _ _ _ _ c2 ty2 fz2 vs Bs hn hb2 hfree hsize ht hsz hcell hval =>
      rw [hb] at hb2; cases hb2; exact hsize
  have hcl : (a.eval y).cells.toList.length = td.size := by rw [← hsz, hl]; simp
  have hfit : i * sz + j + td.size ≤ len * sz := by
    have : (i + 1) * sz ≤ len * sz := Nat.mul_le_mul_right _ hi
    rw [Nat.add_mul] at this; omega
  obtain ⟨c', hrun, hN', hρ', hF', hst', hstep⟩ := hs.st.writeG (P := P) hh (i * sz + j) (a.eval y).cells.toList
    (fun v hvm => by
      obtain ⟨q, hq⟩ := List.mem_iff_getElem?.1 hvm
      have hql := len_of_get hq
      have hq' : q < (acells r).length := by rw [hsz, ← hcl]; exact hql
      have := hval q _ (List.getElem?_eq_getElem hq')
      have h1 := List.all_eq_true.1 hone (acells r)[q] (List.getElem_mem hq')
      have e : (a.eval y).cells.getD q undef = v := by
        rw [Array.getD_eq_getD_getElem?]
        have : (a.eval y).cells[q]? = some v := by simpa using hq
        rw [this]; rfl
      rw [e] at this
      exact one_ok this h1)
    (fun cells ty fz hb => by rw [hcl]; have := hbnd _ _ _ hb; omega) c.ρ c.N n len (updG g i (setCells (g i) j (acells r))) tight rfl hn (Nat.le_refl _) (fun _ _ => rfl) hbnd (fun h => ⟨rfl, h⟩)
    (fun q hq => by
      by_cases hqi : q = i
      · subst hqi; rw [updG_same, setCells_len]; exact hglen
      · rw [updG_ne hqi]
        cases hor with | arr _ _ _ _ _ _ _ _ _ _ _ _ _ _ hsz' => exact hsz' q hq)
    (fun q k z hq hz => by
      rw [hcl]
      by_cases hqi : q = i
      · subst hqi
        rw [updG_same] at hz
        rcases setCells_get _ _ _ _ _ hz with ⟨h1, h2, h3⟩ | ⟨h1, h2⟩
        · left
          refine ⟨by omega, by omega, ?_⟩
          have := hval (k - j) z h3
          rw [List.getD_eq_getElem?_getD, show q * sz + k - (q * sz + j) = k - j by omega]
          rw [Array.getD_eq_getD_getElem?] at this
          simpa using this
        · right
          exact ⟨by omega, hq, h2⟩
      · rw [updG_ne hqi] at hz
        right
        have hk := len_of_get hz
        have hgl : (g q).length = sz := by
          cases hor with | arr _ _ _ _ _ _ _ _ _ _ _ _ _ _ hsz' => exact hsz' q hq
        refine ⟨?_, hq, hz⟩
        rcases Nat.lt_or_gt_of_ne hqi with h | h
        · have : (q + 1) * sz ≤ i * sz := Nat.mul_le_mul_right _ h
          rw [Nat.add_mul] at this; omega
        · have : (i + 1) * sz ≤ q * sz := Nat.mul_le_mul_right _ h
          rw [Nat.add_mul] at this; omega)
  refine upon_skip a next Q (w' := c'.w) ?_ (hk _ c' .junk _ hst' hstep (.junk _) ⟨hN', rfl, rfl⟩)
  have hne : ¬ ((a.eval y).cells.size ≠ td.size) := by rw [← hcl]; simp
  simp only [execOp, ho, hv, Instr.storeAt, Instr.sureAddr, storeVar, Sem.run_bind, Sem.run_pure, Result.andThen_ok, hszz, if_neg hne, hrun]

theorem AOp.storeC {t : TypeId} {td : TD} {x y : Operand} {n sz0 i0 j0 : Nat} {cs : List AV} {r : AV} (ho : o.op = .store t x y) (ht : tab t = some td) (hx : aev fr x = some (.ptr n sz0 i0 j0)) (hy : aev fr y = some r)
    (hh : Has n (vr cs) H Hr) (hsz : (acells r).length = td.size) (hj : i0 * sz0 + j0 + td.size ≤ cs.length) (hone : (acells r).all AV.one = true) :
    AOp P nt o N fr H fun N' r' H' => N' = N ∧ r' = .junk ∧ H' = (n, vr (setCells cs (i0 * sz0 + j0) (acells r))) :: Hr := by
  intro c a hN hs next Q hk
  refine AOp.storeG T ho ht hx (i := 0) (sz := cs.length) (by omega) hy hh (by omega) hsz hj hone c a hN hs next Q fun v c' r' H' h1 h2 h3 h4 => ?_
  obtain ⟨e1, e2, rfl⟩ := h4
  refine hk v c' r' _ (h1.head (o' := vr (setCells cs (i0 * sz0 + j0) (acells r))) fun B hB => ?_) h2 h3 ⟨e1, e2, rfl⟩
  have := hB.congr (g' := fun _ => setCells cs (i0 * sz0 + j0) (acells r)) (fun i hi => by obtain rfl : i = 0 := (by omega); rw [updG_same])
  show OR _ _ _ _ n (.arr (setCells cs (i0 * sz0 + j0) (acells r)).length 1 _ true) B
  rw [setCells_len]; exact this

theorem AOp.storeRowC {t : TypeId} {td : TD} {x y : Operand} {n sz0 i0 j0 sz i j : Nat} {els : List (List AV)} {r : AV} (ho : o.op = .store t x y) (ht : tab t = some td) (hx : aev fr x = some (.ptr n sz0 i0 j0)) (hoff : i0 * sz0 + j0 = i * sz + j) (hy : aev fr y = some r)
    (hh : Has n (.row sz false els) H Hr) (hi : i < els.length) (hsz : (acells r).length = td.size) (hj : j + td.size ≤ sz) (hone : (acells r).all AV.one = true) :
    AOp P nt o N fr H fun N' r' H' => N' = N ∧ r' = .junk ∧ H' = (n, .row sz false (els.set i (setCells (els.getD i []) j (acells r)))) :: Hr := by
  intro c a hN hs next Q hk
  subst hN
  obtain ⟨Own, hst0, hstep0, hmem, hn1, hle, hmax, cs0, ty0, fz0, hb0, hfree0, hsize0⟩ := hs.st.rowArr hh
  have hs0 : Sit nt { c with Own := Own } a fr ((n, .arr sz els.length (fun i => els.getD i []) false) :: Hr) := ⟨hst0, hs.fr, hs.size, hs.defers⟩
  obtain ⟨hv, hn⟩ := (aev_ok hs hx).ptr_inv
  rw [hoff] at hv
  have hrs : r.sound = true := by
    cases r <;> simp_all [acells, AV.one, AV.sound]
  obtain ⟨hl, hval⟩ := acells_ok (aev_ok hs hy) hrs
  obtain ⟨B0, hor⟩ := (Has.head (n := n) (o := .arr sz els.length (fun i => els.getD i []) false) Hr).mem hst0.hr
  have hszz := run_sizeOf' T ht
  have hgl : ∀ q, q < els.length → (els.getD q []).length = sz := fun q hq => by
    cases hor with | arr _ _ _ _ _ _ _ _ _ _ _ _ _ _ hsz' => exact hsz' q hq
  have hcl : (a.eval y).cells.toList.length = td.size := by rw [← hsz, hl]; simp
  have hfit : i * sz + j + td.size ≤ els.length * sz := by
    have : (i + 1) * sz ≤ els.length * sz := Nat.mul_le_mul_right _ hi
    rw [Nat.add_mul] at this; omega
  have hele : els.length * sz ≤ cs0.size := by rw [hsize0]; exact Nat.mul_le_mul_right _ hle
  have honeV : ∀ v, v ∈ (a.eval y).cells.toList → v.oneCell' = true := fun v hvm => by
    obtain ⟨q, hq⟩ := List.mem_iff_getElem?.1 hvm
    have hql := len_of_get hq
    have hq' : q < (acells r).length := by rw [hsz, ← hcl]; exact hql
    have := hval q _ (List.getElem?_eq_getElem hq')
    have h1 := List.all_eq_true.1 hone (acells r)[q] (List.getElem_mem hq')
    have e : (a.eval y).cells.getD q undef = v := by
      rw [Array.getD_eq_getD_getElem?]
      have : (a.eval y).cells[q]? = some v := by simpa using hq
      rw [this]; rfl
    rw [e] at this
    exact one_ok this h1
  obtain ⟨c', hrun, hN', hρ', hF', hst', hstep⟩ := hst0.writeG (P := P) (.head Hr) (i * sz + j) (a.eval y).cells.toList honeV
    (fun cells ty fz hb => by rw [hcl]; have := hb0.symm.trans hb; cases this; omega) c.ρ c.N n els.length (updG (fun i => els.getD i []) i (setCells (els.getD i []) j (acells r))) false rfl hn (Nat.le_refl _) (fun _ _ => rfl) (fun cells ty fz hb => by have := hb0.symm.trans hb; cases this; exact hele) (fun h => by cases h)
    (fun q hq => by
      by_cases hqi : q = i
      · subst hqi; rw [updG_same, setCells_len]; exact hgl q hq
      · rw [updG_ne hqi]; exact hgl q hq)
    (fun q k z hq hz => by
      rw [hcl]
      by_cases hqi : q = i
      · subst hqi
        rw [updG_same] at hz
        rcases setCells_get _ _ _ _ _ hz with ⟨h1, h2, h3⟩ | ⟨h1, h2⟩
        · left
          refine ⟨by omega, by omega, ?_⟩
          have := hval (k - j) z h3
          rw [List.getD_eq_getElem?_getD, show q * sz + k - (q * sz + j) = k - j by omega]
          rw [Array.getD_eq_getD_getElem?] at this
          simpa using this
        · right
          exact ⟨by omega, hq, h2⟩
      · rw [updG_ne hqi] at hz
        right
        have hk := len_of_get hz
        have hgl := hgl q hq
        refine ⟨?_, hq, hz⟩
        rcases Nat.lt_or_gt_of_ne hqi with h | h
        · have : (q + 1) * sz ≤ i * sz := Nat.mul_le_mul_right _ h
          rw [Nat.add_mul] at this; omega
        · have : (i + 1) * sz ≤ q * sz := Nat.mul_le_mul_right _ h
          rw [Nat.add_mul] at this; omega)
  have hrun2 := run_storeCellsB (P := P) (c.ρ n) ty0 fz0 (a.eval y).cells.toList cs0 c.w (i * sz + j) 0 hb0 hfree0 (by rw [hcl]; omega) honeV
  rw [Nat.add_zero] at hrun2
  have hw : c'.w = setBlock c.w (c.ρ n) (.cells (putCells cs0 (i * sz + j) (a.eval y).cells.toList) ty0 fz0) := by
    have := hrun.symm.trans hrun2
    injection this
  have hst2 : St c' ((n, .row sz false (els.set i (setCells (els.getD i []) j (acells r)))) :: Hr) := by
    refine hst'.arrRow (by rw [hN']; exact hn1) (by simp) (by rw [hρ']; exact hle) (by rw [hρ']; exact hmax) (fun cs ty fz hb => ?_) (fun q hq => ?_)
    · rw [hρ', hw, setBlock_get _ _ _ _ (lt_of_heap hb0), if_pos rfl] at hb
      cases hb
      rw [putCells_size, hρ']; exact hsize0
    · by_cases hqi : q = i
      · subst hqi; rw [updG_same, List.getElem?_set_self hq]
      · rw [updG_ne hqi, List.getElem?_set_ne (Ne.symm hqi)]; exact getD_lt [] hq
  refine upon_skip a next Q (w' := c'.w) ?_ (hk _ c' .junk _ hst2 (hstep0.trans hstep) (.junk _) ⟨hN', rfl, rfl⟩)
  have hne : ¬ ((a.eval y).cells.size ≠ td.size) := by rw [← hcl]; simp
  simp only [execOp, ho, hv, Instr.storeAt, Instr.sureAddr, storeVar, Sem.run_bind, Sem.run_pure, Result.andThen_ok, hszz, if_neg hne, hrun]

theorem AOp.buildSliceC {t e : TypeId} {td ed : TD} {len : Nat} {parts : Array (Nat × Operand)} {ps : List (Nat × AV)} {cs : List AV} {ag : Bool} {zs : List Z} (ho : o.op = .buildSlice t len parts) (ht : tab t = some td) (hkd : td.kind = .slice e) (he : tab e = some ed)
    (hz : ed.zero = some (ag, zs)) (hp : parts.toList.mapM (fun p => (aev fr p.2).map fun x => (p.1, x)) = some ps) (hzl : zs.length = ed.size)
    (hf : afill (fun i => some (i * ed.size, ed.size)) (List.replicate len (zs.map fun z => AV.fv z.fv)).flatten ps = some cs) (hcl : cs.length = len * ed.size) (hsmall : len * ed.size ≤ 16777216) (hpos : len * ed.size ≠ 0) :
    AOp P nt o N fr H fun N' r H' => N' = N + 1 ∧ r = .sl N ed.size 0 len (some len) ∧ H' = (N, vr cs) :: H := by
  intro c a hN hs next Q hk
  subst hN
  obtain ⟨v, hrun, hzv, _⟩ := run_zero T he hz
  obtain ⟨hl, hv⟩ := zeros_ok hzv c.w c.F c.ρ c.N
  obtain ⟨h1, h2⟩ := mapM_parts hs hp
  obtain ⟨desc, _, hu, hkk⟩ := run_under T ht
  rw [hkd] at hkk
  obtain rfl := kind_slice hkk
  have hes := run_sizeOf' T he
  have hvs : v.cells.size = ed.size := by rw [← hl, hzl]
  have hzcl : (zs.map fun z => AV.fv z.fv).length = ed.size := by simp [hzl]
  have hlen0 : ((List.replicate len (zs.map fun z => AV.fv z.fv)).flatten).length = len * ed.size := by simp [hzl]
  have hcells : ∀ (j : Nat) (x : AV), ((List.replicate len (zs.map fun z => AV.fv z.fv)).flatten)[j]? = some x → VR c.w c.F c.ρ c.N x (((Array.range (len * ed.size)).map (v.cells[· % v.cells.size]!)).getD j undef) := by
    intro j x hx
    have hj := len_of_get hx
    rw [hlen0] at hj
    have hpos' : 0 < ed.size := by
      rcases Nat.eq_zero_or_pos ed.size with h | h
      · rw [h] at hj; omega
      · exact h
    have hm : j % ed.size < ed.size := Nat.mod_lt _ hpos'
    have hd : j / ed.size < len := Nat.div_lt_of_lt_mul (by rw [Nat.mul_comm]; exact hj)
    obtain ⟨y, hy⟩ : ∃ y, (zs.map fun z => AV.fv z.fv)[j % ed.size]? = some y := ⟨_, List.getElem?_eq_getElem (by rw [hzcl]; exact hm)⟩
    have hr := get_rep (ez := zs.map fun z => AV.fv z.fv) len (j / ed.size) (j % ed.size) y hd hy
    rw [hzcl, Nat.div_add_mod' j ed.size] at hr
    rw [hr] at hx
    have := hv (j % ed.size) x (by rw [← hx]; exact hy)
    rw [Array.getD_eq_getD_getElem?] at this
    simp only [Array.getD_eq_getD_getElem?, Array.getElem?_map, Array.getElem?_range, hj, if_true, Option.map_some, Option.getD_some, hvs]
    rw [getElem!_pos v.cells (j % ed.size) (by omega)]
    rw [Array.getElem?_eq_getElem (by omega)] at this
    simpa using this
  obtain ⟨vs', e1, e2, e3⟩ := fill_ok ps _ _ cs _ hf h1 h2 (by rw [hlen0]; simp) hcells
  have hvsz : vs'.size = len * ed.size := by
    rw [← e2, hcl]
  obtain ⟨g1, g2⟩ := hs.st.newArr vs' e cs.length 1 (fun _ => cs) true (by omega) (fun _ => by omega) (fun _ _ => rfl)
    (fun i j x hi hx => by obtain rfl : i = 0 := (by omega); have := e3 j x hx; simpa using this)
  refine upon_value a next Q (w' := (c.new (.cells vs' e)).w) (v := .slice (some ⟨c.w.heap.size, 0, none⟩) len len) ?_ ?_
  · have hbig : ¬ (len * ed.size > 2 ^ 24) := by omega
    rw [show (parts.map fun (p : Nat × Operand) => (p.1, a.eval p.2)) = parts.map (fun x => match x with | (i, x) => (i, a.eval x)) from rfl] at e1
    simp only [execOp, ho, Instr.buildSlice, Sem.run_bind, hu, Result.andThen_ok, hes, if_neg hbig, if_neg hpos, hrun, Sem.run_pure]
    rw [e1]
    simp [newRow, Cx.new]
  · refine hk _ (c.new (.cells vs' e)) _ _ g1 g2 ?_ ⟨rfl, rfl, rfl⟩
    refine .sl _ _ _ _ _ _ _ (by simp [Cx.new]) (Nat.le_refl _) (fun k hk => by simpa using hk.symm) (fun _ => by simp [Cx.new, upd_same])

theorem AOp.makeSliceC {t e : TypeId} {td ed : TD} {ag : Bool} {zs : List Z} {x y : Operand} {k k' : IntKind} {m m' : Int} (ho : o.op = .makeSlice t x y) (ht : tab t = some td) (hk : td.kind = .slice e) (he : tab e = some ed) (hz : ed.zero = some (ag, zs)) (hzl : zs.length = ed.size) (hby : Nat.ble ed.bytes 65536 = true)
    (hx : aev fr x = some (.fv (.int k m))) (hy : aev fr y = some (.fv (.int k' m'))) (h0 : 0 ≤ m) (h1 : m ≤ m') (h2 : m' ≤ 1073741824) :
    AOp P nt o N fr H fun N' r H' => N' = N + 1 ∧ r = .sl N ed.size 0 m.toNat (some m'.toNat) ∧ H' = (N, vr (List.replicate m'.toNat (zs.map fun z => AV.fv z.fv)).flatten) :: H := by
  intro c a hN hs next Q hkk
  subst hN
  obtain ⟨i, z, hi, hzi, hsize, hbytes, hzs, hv⟩ := info_of T he hz c
  have hus := under_slice T ht hk
  have hvx := (aev_ok hs hx).int_inv
  have hvy := (aev_ok hs hy).int_inv
  have hby' : ed.bytes ≤ 65536 := Nat.le_of_ble_eq_true hby
  have hbig : (i.bytes : Int) * m' ≤ 281474976710656 := by
    rw [hbytes]
    have h3 : (ed.bytes : Int) * m' ≤ 65536 * 1073741824 := Int.mul_le_mul (by omega) h2 (by omega) (by decide)
    omega
  have hrun := run_make (P := P) c.w t e i z hus hi hzi k k' m m' h0 h1 hbig (by omega)
  have hcl : (madeCells z.cells (m'.toNat * i.size)).size = m'.toNat * ed.size := by rw [size_madeCells, hsize]
  have hzl' : (zs.map fun z => AV.fv z.fv).length = ed.size := by simp [hzl]
  have hfl : ((List.replicate m'.toNat (zs.map fun z => AV.fv z.fv)).flatten).length = m'.toNat * ed.size := by
    rw [flat_len _ ed.size (fun l hl => by rw [(List.mem_replicate.1 hl).2]; exact hzl'), List.length_replicate]
  obtain ⟨g1, g2⟩ := hs.st.newArr (madeCells z.cells (m'.toNat * i.size)) e ((List.replicate m'.toNat (zs.map fun z => AV.fv z.fv)).flatten).length 1 (fun _ => (List.replicate m'.toNat (zs.map fun z => AV.fv z.fv)).flatten) true (by rw [hfl]; omega) (fun _ => by rw [hfl]; omega) (fun _ _ => rfl)
    (fun q j w hq hw => by
      obtain rfl : q = 0 := by omega
      have hjl := len_of_get hw
      rw [hfl] at hjl
      obtain ⟨p1, p2, p3⟩ := place_of hjl
      rw [p3, flat_get _ ed.size (fun l hl => by rw [(List.mem_replicate.1 hl).2]; exact hzl') _ _ p2, List.getD_eq_getElem?_getD, List.getElem?_replicate, if_pos p1] at hw
      have e1 : j % z.cells.size = j % ed.size := by rw [hzs, hzl]
      have hj2 : j % ed.size < z.cells.size := by rw [hzs, hzl]; exact p2
      have := hv (j % ed.size) w hw
      rw [Array.getD_eq_getD_getElem?, Array.getElem?_eq_getElem hj2] at this
      simp only [madeCells, Array.getD_eq_getD_getElem?, Array.getElem?_map, hsize, Nat.zero_mul, Nat.zero_add, Array.getElem?_range, hjl, if_true, Option.map_some, Option.getD_some, e1]
      rw [getElem!_pos z.cells (j % ed.size) hj2]
      simpa using this)
  refine upon_value a next Q (w' := (c.new (.cells (madeCells z.cells (m'.toNat * i.size)) e)).w) (v := .slice (some ⟨c.w.heap.size, 0, none⟩) m.toNat m'.toNat) ?_ (hkk _ _ _ _ g1 g2 ?_ ⟨rfl, rfl, rfl⟩)
  · simp only [execOp, ho, hvx, hvy, Sem.run_bind, hrun, Result.andThen_ok, Sem.run_pure]; rfl
  · refine .sl _ _ _ _ _ _ _ (by simp [Cx.new]) (by omega) (fun k hk => by simpa using hk.symm) (fun _ => by simp [Cx.new, upd_same])

omit T in
theorem St.putV {c : Cx} {n off : Nat} {cs xs : List AV} {vals : List Value} (hst : St c H) (hh : Has n (vr cs) H Hr) (hn : n < c.N) (hfit : off + xs.length ≤ cs.length) (hvl : vals.length = xs.length) (hone : ∀ v, v ∈ vals → v.oneCell' = true)
    (hget : ∀ (j : Nat) x, xs[j]? = some x → VR c.w c.F c.ρ c.N x (vals.getD j undef)) :
    ∃ c', (storeCells ⟨c.ρ n, off, none⟩ vals).run P c.w = .ok () c'.w ∧ c'.N = c.N ∧ St c' ((n, vr (setCells cs off xs)) :: Hr) ∧ Step c c' := by
  obtain ⟨B0, hor⟩ := hh.mem hst.hr
  have hbnd : ∀ cells ty fz, c.w.heap[c.ρ n]? = some (.cells cells ty fz) → cs.length ≤ cells.size := by
    intro cells ty fz hb
    cases hor with
    | arr _ _ _ _ c2 ty2 fz2 vs Bs hn hb2 hfree hsize ht hsz hcell hval => rw [hb] at hb2; cases hb2; omega
  obtain ⟨c', hrun, hN', hρ', hF', hst', hstep⟩ := hst.writeG (P := P) hh off vals hone
    (fun cells ty fz hb => by rw [hvl]; have := hbnd _ _ _ hb; omega) c.ρ c.N n 1 (fun _ => setCells cs off xs) true rfl hn (Nat.le_refl _) (fun _ _ => rfl) (fun cells ty fz hb => by have := hbnd _ _ _ hb; omega) (fun h => ⟨rfl, rfl⟩)
    (fun q hq => setCells_len _ _ _)
    (fun q k z hq hz => by
      obtain rfl : q = 0 := by omega
      rw [hvl]
      rcases setCells_get _ _ _ _ _ hz with ⟨h1, h2, h3⟩ | ⟨h1, h2⟩
      · left
        refine ⟨by omega, by omega, ?_⟩
        have := hget (k - off) z h3
        rwa [show 0 * cs.length + k - off = k - off by omega]
      · right
        exact ⟨by omega, hq, h2⟩)
  refine ⟨c', hrun, hN', ?_, hstep⟩
  show St c' ((n, .arr (setCells cs off xs).length 1 (fun _ => setCells cs off xs) true) :: Hr)
  rw [setCells_len]; exact hst'

theorem AOp.copyC {x y : Operand} {t t' e : TypeId} {td ed : TD} {n i len : Nat} {cap : Option Nat} {cs : List AV} {els els' : List (List AV)} (ho : o.op = .call { callee := .builtin .copy, args := #[x, y], argTypes := #[t, t'] })
    (ht : tab t = some td) (hk : td.kind = .slice e) (he : tab e = some ed) (hx : aev fr x = some (.sl n ed.size i len cap)) (hh : Has n (vr cs) H Hr) (hy : ASrc fr H y ed.size els) (hone : els.all (fun l => l.all AV.one) = true)
    (hi : (i + len) * ed.size ≤ cs.length) (he' : els.take len = els') :
    AOp P nt o N fr H fun N' r H' => N' = N ∧ r = .fv (.int .i64 els'.length) ∧ H' = (n, vr (setCells cs (i * ed.size) els'.flatten)) :: Hr := by
  intro c a hN hs next Q hkk
  subst hN
  subst he'
  obtain ⟨nv, hsrc⟩ := hy.read hone hs
  have hus := under_slice T ht hk
  have hes := run_sizeOf' T he
  obtain ⟨ad, c0, hv, hn, hlc, _, had⟩ := (aev_ok hs hx).sl_inv
  have hmin : (els.take len).length = min len els.length := by simp
  have hsplit : nv.take ((els.take len).length * ed.size) ++ nv.drop ((els.take len).length * ed.size) = nv := List.take_append_drop ..
  have htl : (nv.take ((els.take len).length * ed.size)).length = (els.take len).length * ed.size := by
    rw [List.length_take, hsrc.len, hmin]
    have : min len els.length * ed.size ≤ els.length * ed.size := Nat.mul_le_mul_right _ (Nat.min_le_right ..)
    omega
  have tget : ∀ (q : Nat) l, (els.take len)[q]? = some l → q < len ∧ els[q]? = some l := fun q l h => by
    rw [List.getElem?_take] at h
    split at h
    · exact ⟨by assumption, h⟩
    · cases h
  have hwide' : ∀ l, l ∈ els.take len → l.length = ed.size := fun l hl => by
    obtain ⟨q, hq⟩ := List.mem_iff_getElem?.1 hl
    exact hsrc.wide q l (tget q l hq).2
  have hfl := flat_len (els.take len) ed.size hwide'
  have hlem : (els.take len).length * ed.size ≤ len * ed.size := Nat.mul_le_mul_right _ (by rw [hmin]; exact Nat.min_le_left ..)
  rw [Nat.add_mul] at hi
  obtain ⟨c', hrun, h1, h2, h3⟩ := St.putV (P := P) (off := i * ed.size) (xs := (els.take len).flatten) (vals := nv.take ((els.take len).length * ed.size)) hs.st hh hn (by rw [hfl]; omega) (by rw [hfl, htl])
    (fun v hv => hsrc.toV (P := P) |>.one hone v (List.mem_of_mem_take hv))
    (fun k y hy => by
      have hk := len_of_get hy
      rw [hfl] at hk
      obtain ⟨p1, p2, p3⟩ := place_of hk
      have hy' := hy
      rw [p3, flat_get _ ed.size hwide' _ _ p2] at hy'
      have hl := getD_lt [] p1
      have := hsrc.get (k / ed.size) (k % ed.size) _ y (tget _ _ hl).2 hy'
      rw [← p3] at this
      rw [List.getD_eq_getElem?_getD, List.getElem?_take, if_pos hk, ← List.getD_eq_getElem?_getD]
      exact this)
  have hfirst : (Builtin.firstCells ed.size (els.take len).length (a.eval y)).run P c.w = .ok (nv.take ((els.take len).length * ed.size)).toArray c.w := by
    rcases hsrc.val with ⟨hv', hel⟩ | ⟨ad', k', hv', hc⟩
    · rw [hv', hel]; simp [Builtin.firstCells]
    · rw [hv']
      exact run_firstCells_some (P := P) c.w ed.size (els.take len).length ad' els.length k' _ htl fun j u hu => hc j u (by
        rw [List.getElem?_take] at hu
        split at hu
        · exact hu
        · cases hu)
  have hlen : (Builtin.lenOf (a.eval y)).run P c.w = .ok els.length c.w := hsrc.toV.lenv c.w
  have hmin' : Nat.min els.length len = (els.take len).length := by rw [hmin]; exact Nat.min_comm ..
  refine upon_value a next Q (w' := c'.w) (v := .int .i64 ((els.take len).length : Nat)) ?_ (hkk _ c' _ _ h2 h3 (.fv _ _ (.int ..)) ⟨h1, rfl, rfl⟩)
  have hcopy : (Builtin.copy_ #[t, t'] o.type #[.slice (some ad) len c0, a.eval y]).run P c.w = .ok (.int .i64 ((els.take len).length : Nat)) c'.w := by
    clear h1 h2 h3 htl tget hsplit hmin hkk hwide' hfl hlem hi
    generalize (els.take len).length = m at hfirst hmin' hrun
    by_cases h0 : 0 < c0
    · rw [had h0]
      simp [Builtin.copy_, run_underlying hus, hlen, hmin', hes, hfirst, hrun]
      rfl
    · have hz : len = 0 := by omega
      have hm0 : m = 0 := by rw [← hmin', hz]; exact Nat.min_zero _
      subst hm0
      simp only [Nat.zero_mul, List.take_zero] at hrun hfirst
      have hcw : c'.w = c.w := by
        simp [storeCells] at hrun
        exact hrun.symm
      simp [Builtin.copy_, run_underlying hus, hlen, hmin', hes, hfirst, storeCells, hcw]
      rfl
  simp only [execOp, ho, resolve, invoke, builtin, Sem.run_bind, Sem.run_pure, Result.andThen_ok, List.map_toArray, List.map_cons, List.map_nil, hv, hcopy]

theorem AOp.appendFitC {s x : Operand} {t e : TypeId} {td ed : TD} {n i len cap : Nat} {cs : List AV} {news : List (List AV)} (ho : o.op = .call { callee := .builtin .append, args := #[s, x], argTypes := #[t, t] })
    (ht : tab t = some td) (hk : td.kind = .slice e) (he : tab e = some ed)
    (hs : aev fr s = some (.sl n ed.size i len (some cap))) (hh : Has n (vr cs) H Hr) (hx : ASrc fr H x ed.size news) (hone : news.all (fun l => l.all AV.one) = true)
    (hc : 0 < cap) (hfit : len + news.length ≤ cap) (hi : (i + len + news.length) * ed.size ≤ cs.length) :
    AOp P nt o N fr H fun N' r H' => N' = N ∧ r = .sl n ed.size i (len + news.length) (some cap) ∧ H' = (n, vr (setCells cs ((i + len) * ed.size) news.flatten)) :: Hr := by
  intro c a hN hsit next Q hkk
  subst hN
  obtain ⟨nv, hx'⟩ := hx.read hone hsit
  obtain ⟨ad, k, hv, hn, hlk, hcap, had⟩ := (aev_ok hsit hs).sl_inv
  have hkc := hcap cap rfl
  subst hkc
  have hu := under_slice T ht hk
  obtain ⟨inf, dd, hi', hud, hkd, hsize, hbytes, hzero, _⟩ := tabOf_inv (T e ed he)
  have hwide' : ∀ l, l ∈ news → l.length = ed.size := fun l hl => by
    obtain ⟨q, hq⟩ := List.mem_iff_getElem?.1 hl
    exact hx'.wide q l hq
  have hfl := flat_len news ed.size hwide'
  obtain ⟨c', hrun, h1, h2, h3⟩ := St.putV (P := P) (off := (i + len) * ed.size) (xs := news.flatten) (vals := nv) hsit.st hh hn (by rw [hfl, ← Nat.add_mul]; exact hi) (by rw [hfl, hx'.len]) (hx'.toV (P := P) |>.one hone)
    (fun k y hy => by
      have hk := len_of_get hy
      rw [hfl] at hk
      obtain ⟨p1, p2, p3⟩ := place_of hk
      have hy' := hy
      rw [p3, flat_get _ ed.size hwide' _ _ p2] at hy'
      have := hx'.get (k / ed.size) (k % ed.size) _ y (getD_lt [] p1) hy'
      rw [← p3] at this
      exact this)
  have hst : (storeCells (ad.add (len * inf.size)) nv.toArray.toList).run P c.w = .ok () c'.w := by
    rw [had hc, add_mk, hsize, ← Nat.add_mul]; exact hrun
  have hr := run_append_fits (P := P) (ty := o.type) (base := some ad) hu hu (.inl ⟨e, rfl⟩) hi' hx'.toV.lenv (by rw [hsize]; exact hx'.toV.cellsv c.w rfl) hfit hst
  refine upon_value a next Q (append_op (c := c) ho hv rfl hr) (hkk _ c' _ _ h2 h3 (.sl _ _ _ _ _ _ _ (by rw [h1]; exact hn) hfit (fun q hq => by cases hq; rfl) fun h0 => by rw [had h0, h3.same n hn]) ⟨h1, rfl, rfl⟩)

end
end Go.Sl
