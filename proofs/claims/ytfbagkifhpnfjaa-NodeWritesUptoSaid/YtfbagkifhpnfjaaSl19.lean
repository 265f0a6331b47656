/- Rows read and written where they lie; append to a slice whose room is known. No condition. -/
import Derived.Test.YtfbagkifhpnfjaaSl18
namespace Go.Sl
open Go
set_option linter.unusedVariables false
set_option linter.unusedSimpArgs false
variable {P : Program}

theorem OR.rowFact {w : World} {F : Nat → Prop} {ρ : Nat → Nat} {N n sz : Nat} {els : List (List AV)} {B : List Nat} (h : OR w F ρ N n (.row sz false els) B) :
    n + 1 < N ∧ els.length ≤ ρ (n + 1) ∧ ρ (n + 1) ≤ maxLen ∧ ∃ c ty fz, w.heap[ρ n]? = some (.cells c ty fz) ∧ Free c fz ∧ c.size = ρ (n + 1) * sz ∧ ρ n ∈ B := by
  cases h with
  | row _ _ c ty fz vs Bs h hb hfree hlen hsize hmax hsz hcell hval => exact ⟨h, hlen, hmax, c, ty, fz, hb, hfree, hsize, by simp⟩

/-- A row is told as an array. -/
theorem St.rowArr {c : Cx} {H Hr : Heap} {n sz : Nat} {els : List (List AV)} (hst : St c H) (hh : Has n (.row sz false els) H Hr) :
    ∃ Own, St { c with Own := Own } ((n, .arr sz els.length (fun i => els.getD i []) false) :: Hr) ∧ Step c { c with Own := Own } ∧ c.ρ n ∈ c.Own ∧
      n + 1 < c.N ∧ els.length ≤ c.ρ (n + 1) ∧ c.ρ (n + 1) ≤ maxLen ∧ ∃ cs ty fz, c.w.heap[c.ρ n]? = some (.cells cs ty fz) ∧ Free cs fz ∧ cs.size = c.ρ (n + 1) * sz := by
  obtain ⟨B, Or, hor, hH, hp⟩ := hh.split hst.hr
  obtain ⟨h1, h2, h3, cs, ty, fz, h4, h5, h6, h7⟩ := hor.rowFact
  exact ⟨B ++ Or, hst.perm (.cons _ _ _ _ _ hor.rowArr hH) hp, Step.reown c _ fun b hb => hp.mem_iff.2 hb, hp.mem_iff.2 (List.mem_append_left _ h7), h1, h2, h3, cs, ty, fz, h4, h5, h6⟩

/-- And back. -/
theorem St.arrRow {c : Cx} {H : Heap} {n sz len : Nat} {g : Nat → List AV} {tight : Bool} {els : List (List AV)} (hst : St c ((n, .arr sz len g tight) :: H)) (hn : n + 1 < c.N) (hl : els.length = len) (hle : len ≤ c.ρ (n + 1)) (hmax : c.ρ (n + 1) ≤ maxLen)
    (hsize : ∀ cs ty fz, c.w.heap[c.ρ n]? = some (.cells cs ty fz) → cs.size = c.ρ (n + 1) * sz) (hg : ∀ i, i < len → els[i]? = some (g i)) : St c ((n, .row sz false els) :: H) := by
  refine hst.head fun B hB => ?_
  cases hB with
  | arr _ _ _ _ cs ty fz vs Bs hn' hb hfree hsz0 ht hsz hcell hval =>
    subst hl
    have el : ∀ (i : Nat) (l : List AV), els[i]? = some l → i < els.length ∧ l = g i := fun i l h => by
      have hi := len_of_get h
      rw [hg i hi] at h
      exact ⟨hi, (Option.some.inj h).symm⟩
    exact .row n sz els cs ty fz vs Bs hn hb hfree hle (hsize _ _ _ hb) hmax (fun i l h => by obtain ⟨h1, rfl⟩ := el i l h; exact hsz i h1)
      (fun i j l x h hx => by obtain ⟨h1, rfl⟩ := el i l h; exact hcell i j x h1 hx) (fun i j l x h hx => by obtain ⟨h1, rfl⟩ := el i l h; exact hval i j x h1 hx)

section
variable {tab : TypeId → Option TD} (T : TabOk P tab) {nt N : Nat} {o : Oper} {fr : Frame} {H Hr : Heap}
include T

theorem ARead.indexAddrRow {t e : TypeId} {td ed : TD} {x y : Operand} {n sz len : Nat} {k : IntKind} {m : Int} (ho : o.op = .indexAddr t x y) (ht : tab t = some td) (hk : td.kind = .slice e) (he : tab e = some ed)
    (hx : aev fr x = some (.row n false len)) (hy : aev fr y = some (.fv (.int k m))) (hsz : ed.size = sz) (h0 : 0 ≤ m) (h1 : m < len) : ARead P nt o N fr H (.ptr n sz m.toNat 0) := by
  intro c a hN hs
  obtain ⟨desc, _, hu, hkk⟩ := run_under T ht
  rw [hk] at hkk
  obtain rfl := kind_slice hkk
  obtain ⟨hn, hv⟩ := (aev_ok hs hx).row_inv
  rcases hv with ⟨h, _⟩ | ⟨_, hv⟩
  · cases h
  have hiv := (aev_ok hs hy).int_inv
  have hes := run_sizeOf' T he
  rw [hsz] at hes
  refine ⟨.pointer (some ⟨c.ρ n, m.toNat * sz + 0, none⟩), fun w' hw' => ?_, .ptr _ _ _ _ (by omega)⟩
  have e1 : (⟨c.ρ n, 0, none⟩ : Addr).add (m.toNat * sz) = ⟨c.ρ n, m.toNat * sz + 0, none⟩ := by rw [add_mk, Nat.zero_add, Nat.add_zero]
  simp [execOp, ho, Instr.indexAt, hu, hv, hiv, asIntOf, h0, h1, hes, e1]

theorem ARead.loadRow {t : TypeId} {td : TD} {x : Operand} {n sz i j : Nat} {els : List (List AV)} {r : AV} (ho : o.op = .load t x) (ht : tab t = some td) (hx : aev fr x = some (.ptr n sz i j))
    (hh : Has n (.row sz false els) H Hr) (hi : i < els.length) (hr : apart td.kind.agg j td.size (els.getD i []) = some r) (hp : (bif td.kind.agg then (((els.getD i []).drop j).take td.size) else [r]).all AV.plain = true) : ARead P nt o N fr H r := by
  intro c a hN hs
  obtain ⟨hv, _⟩ := (aev_ok hs hx).ptr_inv
  obtain ⟨B, hor⟩ := hh.mem hs.st.hr
  obtain ⟨Own, _, _, hmem, _⟩ := hs.st.rowArr hh
  obtain ⟨v, hrun, hvr⟩ := run_loadOR T hor.rowArr hi ht hr hp
  refine ⟨v, fun w' hw' => ?_, hvr⟩
  have := hrun w' (hw' _ (.inr hmem))
  simp [execOp, ho, hv, Instr.loadAt, Instr.sureAddr, this]

/-- A store into an element of a row. -/
theorem AOp.storeRow {t : TypeId} {td : TD} {x y : Operand} {n sz i j : Nat} {els : List (List AV)} {r : AV} (ho : o.op = .store t x y) (ht : tab t = some td) (hx : aev fr x = some (.ptr n sz i j)) (hy : aev fr y = some r)
    (hh : Has n (.row sz false els) H Hr) (hi : i < els.length) (hsz : (acells r).length = td.size) (hj : j + td.size ≤ sz) (hone : (acells r).all AV.one = true) :
    AOp P nt o N fr H fun N' r' H' => N' = N ∧ r' = .junk ∧ H' = (n, .row sz false (els.set i (setCells (els.getD i []) j (acells r)))) :: Hr := by
  intro c a hN hs next Q hk
  subst hN
  obtain ⟨Own, hst0, hstep0, hmem, hn1, hle, hmax, cs0, ty0, fz0, hb0, hfree0, hsize0⟩ := hs.st.rowArr hh
  have hs0 : Sit nt { c with Own := Own } a fr ((n, .arr sz els.length (fun i => els.getD i []) false) :: Hr) := ⟨hst0, hs.fr, hs.size, hs.defers⟩
  obtain ⟨hv, hn⟩ := (aev_ok hs hx).ptr_inv
  have hrs : r.sound = true := by
    cases r <;> simp_all [acells, AV.one, AV.sound]
  obtain ⟨hl, hval⟩ := acells_ok (aev_ok hs hy) hrs
  obtain ⟨B0, hor⟩ := (Has.head (n := n) (o := .arr sz els.length (fun i => els.getD i []) false) Hr).mem hst0.hr
  have hszz := run_sizeOf' T ht
  have hgl : ∀ q, q < els.length → (els.getD q []).length = sz := fun q hq => by
    cases hor with | arr _ _ _ _ _ _ _ _ _ _ _ _ _ _ hsz' => exact hsz' q hq
  have hcl : (a.eval y).cells.toList.length = td.size := by rw [← hsz, hl]; simp
  have hfit : i * sz + j + td.size ≤ els.length * sz := by
    have : (i + 1) * sz ≤ els.length * sz := Nat.mul_le_mul_right _ hi
    rw [Nat.add_mul] at this; omega
  have hele : els.length * sz ≤ cs0.size := by rw [hsize0]; exact Nat.mul_le_mul_right _ hle
  have honeV : ∀ v, v ∈ (a.eval y).cells.toList → v.oneCell' = true := fun v hvm => by
    obtain ⟨q, hq⟩ := List.mem_iff_getElem?.1 hvm
    have hql := len_of_get hq
    have hq' : q < (acells r).length := by rw [hsz, ← hcl]; exact hql
    have := hval q _ (List.getElem?_eq_getElem hq')
    have h1 := List.all_eq_true.1 hone (acells r)[q] (List.getElem_mem hq')
    have e : (a.eval y).cells.getD q undef = v := by
      rw [Array.getD_eq_getD_getElem?]
      have : (a.eval y).cells[q]? = some v := by simpa using hq
      rw [this]; rfl
    rw [e] at this
    exact one_ok this h1
  obtain ⟨c', hrun, hN', hρ', hF', hst', hstep⟩ := hst0.writeG (P := P) (.head Hr) (i * sz + j) (a.eval y).cells.toList honeV
    (fun cells ty fz hb => by rw [hcl]; have := hb0.symm.trans hb; cases this; omega) c.ρ c.N n els.length (updG (fun i => els.getD i []) i (setCells (els.getD i []) j (acells r))) false rfl hn (Nat.le_refl _) (fun _ _ => rfl) (fun cells ty fz hb => by have := hb0.symm.trans hb; cases this; exact hele) (fun h => by cases h)
    (fun q hq => by
      by_cases hqi : q = i
      · subst hqi; rw [updG_same, setCells_len]; exact hgl q hq
      · rw [updG_ne hqi]; exact hgl q hq)
    (fun q k z hq hz => by
      rw [hcl]
      by_cases hqi : q = i
      · subst hqi
        rw [updG_same] at hz
        rcases setCells_get _ _ _ _ _ hz with ⟨h1, h2, h3⟩ | ⟨h1, h2⟩
        · left
          refine ⟨by omega, by omega, ?_⟩
          have := hval (k - j) z h3
          rw [List.getD_eq_getElem?_getD, show q * sz + k - (q * sz + j) = k - j by omega]
          rw [Array.getD_eq_getD_getElem?] at this
          simpa using this
        · right
          exact ⟨by omega, hq, h2⟩
      · rw [updG_ne hqi] at hz
        right
        have hk := len_of_get hz
        have hgl := hgl q hq
        refine ⟨?_, hq, hz⟩
        rcases Nat.lt_or_gt_of_ne hqi with h | h
        · have : (q + 1) * sz ≤ i * sz := Nat.mul_le_mul_right _ h
          rw [Nat.add_mul] at this; omega
        · have : (i + 1) * sz ≤ q * sz := Nat.mul_le_mul_right _ h
          rw [Nat.add_mul] at this; omega)
  have hrun2 := run_storeCellsB (P := P) (c.ρ n) ty0 fz0 (a.eval y).cells.toList cs0 c.w (i * sz + j) 0 hb0 hfree0 (by rw [hcl]; omega) honeV
  rw [Nat.add_zero] at hrun2
  have hw : c'.w = setBlock c.w (c.ρ n) (.cells (putCells cs0 (i * sz + j) (a.eval y).cells.toList) ty0 fz0) := by
    have := hrun.symm.trans hrun2
    injection this
  have hst2 : St c' ((n, .row sz false (els.set i (setCells (els.getD i []) j (acells r)))) :: Hr) := by
    refine hst'.arrRow (by rw [hN']; exact hn1) (by simp) (by rw [hρ']; exact hle) (by rw [hρ']; exact hmax) (fun cs ty fz hb => ?_) (fun q hq => ?_)
    · rw [hρ', hw, setBlock_get _ _ _ _ (lt_of_heap hb0), if_pos rfl] at hb
      cases hb
      rw [putCells_size, hρ']; exact hsize0
    · by_cases hqi : q = i
      · subst hqi; rw [updG_same, List.getElem?_set_self hq]
      · rw [updG_ne hqi, List.getElem?_set_ne (Ne.symm hqi)]; exact getD_lt [] hq
  refine upon_skip a next Q (w' := c'.w) ?_ (hk _ c' .junk _ hst2 (hstep0.trans hstep) (.junk _) ⟨hN', rfl, rfl⟩)
  have hne : ¬ ((a.eval y).cells.size ≠ td.size) := by rw [← hcl]; simp
  simp only [execOp, ho, hv, Instr.storeAt, Instr.sureAddr, storeVar, Sem.run_bind, Sem.run_pure, Result.andThen_ok, hszz, if_neg hne, hrun]

/-- A part of a row. -/
theorem ARead.sliceRow {t e : TypeId} {td ed : TD} {x : Operand} {lo hi : Option Operand} {n sz len : Nat} {els : List (List AV)} {l h : Nat} (ho : o.op = .slice t x lo hi none) (ht : tab t = some td) (hk : td.kind = .slice e) (he : tab e = some ed) (hsz : ed.size = sz)
    (hx : aev fr x = some (.row n false len)) (hlen : Has n (.row sz false els) H Hr) (hel : els.length = len) (h1 : ABnd fr lo 0 l) (h2 : ABnd fr hi len h) (hl : l ≤ h) (hh : h ≤ len) : ARead P nt o N fr H (.sl n sz l (h - l) none) := by
  intro c a hN hs
  obtain ⟨desc, _, hu, hkk⟩ := run_under T ht
  rw [hk] at hkk
  obtain rfl := kind_slice hkk
  obtain ⟨hn, hv⟩ := (aev_ok hs hx).row_inv
  rcases hv with ⟨h, _⟩ | ⟨_, hv⟩
  · cases h
  obtain ⟨Own, _, _, _, _, hle, _⟩ := hs.st.rowArr hlen
  rw [hel] at hle
  have hb := fun w => run_bounds (P := P) hs (isS := true) (cap := c.ρ (n + 1)) h1 h2 hl (by omega) w
  have hes := run_sizeOf' T he
  rw [hsz] at hes
  refine ⟨.slice (some (if c.ρ (n + 1) = l then ⟨c.ρ n, 0, none⟩ else (⟨c.ρ n, 0, none⟩ : Addr).add (l * sz))) (h - l) (c.ρ (n + 1) - l), fun w' hw' => ?_, .sl _ _ _ _ _ _ _ (by omega) (by omega) (fun k hk => by cases hk) ?_⟩
  · simp only [execOp, ho, Instr.sliceAt, Instr.slice, Sem.run_bind, hu, hv, Result.andThen_ok, Option.map_none, hb, hes, Sem.run_pure]
    split <;> simp
  · intro h0
    rw [if_neg (by omega), add_mk, Nat.zero_add]

theorem ARead.sliceRowNil {t e : TypeId} {td ed : TD} {x : Operand} {lo hi : Option Operand} {n sz : Nat} (ho : o.op = .slice t x lo hi none) (ht : tab t = some td) (hk : td.kind = .slice e) (he : tab e = some ed)
    (hx : aev fr x = some (.row n true 0)) (h1 : ABnd fr lo 0 0) (h2 : ABnd fr hi 0 0) : ARead P nt o N fr H (.fv (.sl sz true 0 fun _ => [])) := by
  intro c a hN hs
  obtain ⟨desc, _, hu, hkk⟩ := run_under T ht
  rw [hk] at hkk
  obtain rfl := kind_slice hkk
  obtain ⟨hn, hv⟩ := (aev_ok hs hx).row_inv
  rcases hv with ⟨_, _, hv⟩ | ⟨h, _⟩
  · have hb := fun w => run_bounds (P := P) hs (isS := true) (len := 0) (cap := 0) h1 h2 (Nat.le_refl _) (Nat.le_refl _) w
    have hes := run_sizeOf' T he
    exact ⟨.slice none 0 0, fun w' hw' => by simp [execOp, ho, Instr.sliceAt, Instr.slice, hu, hv, hb, hes], .fv _ _ (.slnil _ _)⟩
  · cases h

/-- s[:0:0] of a row. -/
theorem ARead.slice3Row {t e : TypeId} {td ed : TD} {x : Operand} {lo : Option Operand} {hi mx : Operand} {n sz len : Nat} {nil : Bool} (ho : o.op = .slice t x lo (some hi) (some mx)) (ht : tab t = some td) (hk : td.kind = .slice e) (he : tab e = some ed)
    (hx : aev fr x = some (.row n nil len)) (h1 : ABnd fr lo 0 0) (h2 : ABnd fr (some hi) len 0) (h3 : ABnd fr (some mx) 0 0) : ARead P nt o N fr H (.fv (bif nil then .sl sz true 0 (fun _ => []) else .sl0 sz)) := by
  intro c a hN hs
  obtain ⟨desc, _, hu, hkk⟩ := run_under T ht
  rw [hk] at hkk
  obtain rfl := kind_slice hkk
  have hes := run_sizeOf' T he
  obtain ⟨hn, hv⟩ := (aev_ok hs hx).row_inv
  rcases hv with ⟨rfl, rfl, hv⟩ | ⟨rfl, hv⟩
  · have hb := fun w => run_bounds3 (P := P) hs (isS := true) (len := 0) (cap := 0) h1 h2 h3 (Nat.le_refl _) (Nat.le_refl _) (Nat.le_refl _) w
    exact ⟨.slice none 0 0, fun w' hw' => by simp [execOp, ho, Instr.sliceAt, Instr.slice, hu, hv, hb, hes], .fv _ _ (.slnil _ _)⟩
  · have hb := fun w => run_bounds3 (P := P) hs (isS := true) (len := len) (cap := c.ρ (n + 1)) h1 h2 h3 (Nat.le_refl _) (Nat.le_refl _) (Nat.zero_le _) w
    exact ⟨.slice (some ⟨c.ρ n, 0, none⟩) 0 0, fun w' hw' => by simp [execOp, ho, Instr.sliceAt, Instr.slice, hu, hv, hb, hes], .fv _ _ (.sl0 _ _)⟩

/-- s[:0:0] of a slice of an object. -/
theorem ARead.slice3O {t e : TypeId} {td ed : TD} {x : Operand} {lo : Option Operand} {hi mx : Operand} {n sz i len : Nat} {cap : Option Nat} (ho : o.op = .slice t x lo (some hi) (some mx)) (ht : tab t = some td) (hk : td.kind = .slice e) (he : tab e = some ed)
    (hx : aev fr x = some (.sl n sz i len cap)) (h1 : ABnd fr lo 0 0) (h2 : ABnd fr (some hi) len 0) (h3 : ABnd fr (some mx) 0 0) : ARead P nt o N fr H (.fv (.sl0 sz)) := by
  intro c a hN hs
  obtain ⟨desc, _, hu, hkk⟩ := run_under T ht
  rw [hk] at hkk
  obtain rfl := kind_slice hkk
  have hes := run_sizeOf' T he
  obtain ⟨b, cp, hv, hn, hlc, hcap, ha⟩ := (aev_ok hs hx).sl_inv
  have hb := fun w => run_bounds3 (P := P) hs (isS := true) (len := len) (cap := cp) h1 h2 h3 (Nat.le_refl _) (Nat.le_refl _) (Nat.zero_le _) w
  exact ⟨.slice (some b) 0 0, fun w' hw' => by simp [execOp, ho, Instr.sliceAt, Instr.slice, hu, hv, hb, hes], .fv _ _ (.sl0 _ _)⟩

end
end Go.Sl
