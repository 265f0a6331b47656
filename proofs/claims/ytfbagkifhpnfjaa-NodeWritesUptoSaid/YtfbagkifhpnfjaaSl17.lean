/- Make; type assertions; copy, clear, cap. No condition. -/
import Derived.Test.YtfbagkifhpnfjaaSl16
namespace Go.Sl
open Go
set_option linter.unusedVariables false
set_option linter.unusedSimpArgs false
variable {P : Program}

section
variable {tab : TypeId → Option TD} (T : TabOk P tab) {nt N : Nat} {o : Oper} {fr : Frame} {H Hr : Heap}
include T

theorem info_of {t : TypeId} {td : TD} {ag : Bool} {zs : List Z} (ht : tab t = some td) (hz : td.zero = some (ag, zs)) (c : Cx) :
    ∃ i z, P.info? t = some i ∧ i.zero = some z ∧ i.size = td.size ∧ i.bytes = td.bytes ∧ z.cells.size = zs.length ∧ ∀ (j : Nat) (x : AV), (zs.map fun z => AV.fv z.fv)[j]? = some x → VR c.w c.F c.ρ c.N x (z.cells.getD j undef) := by
  obtain ⟨i, dd, hi, _, _, hsize, hbytes, hzero, _⟩ := tabOf_inv (T t td ht)
  rw [hz] at hzero
  obtain ⟨z, hzi, _⟩ := Option.bind_eq_some_iff.1 hzero
  obtain ⟨v, hrun, hzv, _⟩ := run_zero T ht hz
  have hr2 := hrun c.w
  simp [zeroValue, typeInfo, hi, hzi] at hr2
  subst hr2
  obtain ⟨h1, h2⟩ := zeros_ok hzv c.w c.F c.ρ c.N
  exact ⟨i, z, hi, hzi, hsize, hbytes, by rw [← h1], h2⟩

/-- make([]T, n) -/
theorem AOp.makeSlice {t e : TypeId} {td ed : TD} {ag : Bool} {zs : List Z} {x y : Operand} {k k' : IntKind} {m m' : Int} (ho : o.op = .makeSlice t x y) (ht : tab t = some td) (hk : td.kind = .slice e) (he : tab e = some ed) (hz : ed.zero = some (ag, zs)) (hzl : zs.length = ed.size) (hby : Nat.ble ed.bytes 65536 = true)
    (hx : aev fr x = some (.fv (.int k m))) (hy : aev fr y = some (.fv (.int k' m'))) (h0 : 0 ≤ m) (h1 : m ≤ m') (h2 : m' ≤ 1073741824) :
    AOp P nt o N fr H fun N' r H' => N' = N + 1 ∧ r = .sl N ed.size 0 m.toNat (some m'.toNat) ∧ H' = (N, .arr ed.size m'.toNat (fun _ => zs.map fun z => AV.fv z.fv) true) :: H := by
  intro c a hN hs next Q hkk
  subst hN
  obtain ⟨i, z, hi, hzi, hsize, hbytes, hzs, hv⟩ := info_of T he hz c
  have hus := under_slice T ht hk
  have hvx := (aev_ok hs hx).int_inv
  have hvy := (aev_ok hs hy).int_inv
  have hby' : ed.bytes ≤ 65536 := Nat.le_of_ble_eq_true hby
  have hbig : (i.bytes : Int) * m' ≤ 281474976710656 := by
    rw [hbytes]
    have h3 : (ed.bytes : Int) * m' ≤ 65536 * 1073741824 := Int.mul_le_mul (by omega) h2 (by omega) (by decide)
    omega
  have hrun := run_make (P := P) c.w t e i z hus hi hzi k k' m m' h0 h1 hbig (by omega)
  have hcl : (madeCells z.cells (m'.toNat * i.size)).size = m'.toNat * ed.size := by rw [size_madeCells, hsize]
  obtain ⟨g1, g2⟩ := hs.st.newArr (madeCells z.cells (m'.toNat * i.size)) e ed.size m'.toNat (fun _ => zs.map fun z => AV.fv z.fv) true (by omega) (fun _ => hcl) (fun _ _ => by simp [hzl])
    (fun q j w hq hw => by
      have hj := len_of_get hw
      rw [List.length_map, hzl] at hj
      have hp := place_lt hq hj
      have h0' : 0 < ed.size := by omega
      have e1 : (q * ed.size + j) % z.cells.size = j := by rw [hzs, hzl]; exact (divmod hj).2
      have hj2 : j < z.cells.size := by rw [hzs, hzl]; exact hj
      have := hv j w hw
      rw [Array.getD_eq_getD_getElem?, Array.getElem?_eq_getElem hj2] at this
      simp only [madeCells, Array.getD_eq_getD_getElem?, Array.getElem?_map, hsize, Array.getElem?_range, hp, if_true, Option.map_some, Option.getD_some, e1]
      rw [getElem!_pos z.cells j hj2]
      simpa using this)
  refine upon_value a next Q (w' := (c.new (.cells (madeCells z.cells (m'.toNat * i.size)) e)).w) (v := .slice (some ⟨c.w.heap.size, 0, none⟩) m.toNat m'.toNat) ?_ (hkk _ _ _ _ g1 g2 ?_ ⟨rfl, rfl, rfl⟩)
  · simp only [execOp, ho, hvx, hvy, Sem.run_bind, hrun, Result.andThen_ok, Sem.run_pure]; rfl
  · refine .sl _ _ _ _ _ _ _ (by simp [Cx.new]) (by omega) (fun k hk => by simpa using hk.symm) (fun _ => by simp [Cx.new, upd_same])

omit T in
theorem VR.iface_inv {w : World} {F : Nat → Prop} {ρ : Nat → Nat} {N : Nat} {t : TypeId} {x : AV} {v : Value} (h : VR w F ρ N (.iface t x) v) : ∃ u, v = .iface t u ∧ VR w F ρ N x u := by
  cases h with | iface _ _ u h => exact ⟨u, rfl, h⟩

/-- x.(T), with ok, where x's type is known. -/
theorem ARead.assertYes {x : Operand} {xt t : TypeId} {td : TD} {r : AV} (ho : o.op = .typeAssert x xt t true) (ht : tab t = some td) (hk : td.kind ≠ .iface) (hx : aev fr x = some (.iface t r)) : ARead P nt o N fr H (.tuple [r, .fv (.bool true)]) := by
  intro c a hN hs
  obtain ⟨desc, hu, hur, hkk⟩ := run_under T ht
  obtain ⟨u, hv, hr⟩ := VR.iface_inv (aev_ok hs hx)
  refine ⟨.tuple #[u, .bool true], fun w' hw' => ?_, .tuple _ _ rfl fun j y hy => ?_⟩
  · have := hur w'
    cases desc <;> first
      | (simp [kindOf] at hkk; exact absurd hkk.symm hk)
      | simp [execOp, ho, hv, Instr.typeAssert, this]
  · match j with
    | 0 => simp at hy; subst hy; simpa using hr
    | 1 => simp at hy; subst hy; exact .fv _ _ (.bool _)
    | j + 2 => simp at hy

theorem ARead.assertNo {x : Operand} {xt t t' : TypeId} {td : TD} {r : AV} {ag : Bool} {zs : List Z} (ho : o.op = .typeAssert x xt t true) (ht : tab t = some td) (hk : td.kind ≠ .iface) (hz : td.zero = some (ag, zs)) (hx : aev fr x = some (.iface t' r)) (hne : t' ≠ t) :
    ARead P nt o N fr H (.tuple [.junk, .fv (.bool false)]) := by
  intro c a hN hs
  obtain ⟨desc, hu, hur, hkk⟩ := run_under T ht
  obtain ⟨u, hv, hr⟩ := VR.iface_inv (aev_ok hs hx)
  obtain ⟨z, hrun, _, _⟩ := run_zero T ht hz
  refine ⟨.tuple #[z, .bool false], fun w' hw' => ?_, .tuple _ _ rfl fun j y hy => ?_⟩
  · have := hur w'
    have h2 := hrun w'
    cases desc <;> first
      | (simp [kindOf] at hkk; exact absurd hkk.symm hk)
      | simp [execOp, ho, hv, Instr.typeAssert, this, hne, h2]
  · match j with
    | 0 => simp at hy; subst hy; exact .junk _
    | 1 => simp at hy; subst hy; exact .fv _ _ (.bool _)
    | j + 2 => simp at hy

theorem ARead.assertNil {x : Operand} {xt t : TypeId} {td : TD} {ag : Bool} {zs : List Z} (ho : o.op = .typeAssert x xt t true) (ht : tab t = some td) (hk : td.kind ≠ .iface) (hz : td.zero = some (ag, zs)) (hx : aev fr x = some (.fv .nilif)) :
    ARead P nt o N fr H (.tuple [.junk, .fv (.bool false)]) := by
  intro c a hN hs
  obtain ⟨desc, hu, hur, hkk⟩ := run_under T ht
  have hv : a.eval x = .nilIface := by
    have h := (aev_ok hs hx).fv_inv
    generalize a.eval x = v at h
    cases h; rfl
  obtain ⟨z, hrun, _, _⟩ := run_zero T ht hz
  refine ⟨.tuple #[z, .bool false], fun w' hw' => ?_, .tuple _ _ rfl fun j y hy => ?_⟩
  · have := hur w'
    have h2 := hrun w'
    cases desc <;> first
      | (simp [kindOf] at hkk; exact absurd hkk.symm hk)
      | simp [execOp, ho, hv, Instr.typeAssert, this, h2]
  · match j with
    | 0 => simp at hy; subst hy; exact .junk _
    | 1 => simp at hy; subst hy; exact .fv _ _ (.bool _)
    | j + 2 => simp at hy

theorem ARead.cap {x : Operand} {t e : TypeId} {td : TD} {n sz i len k : Nat} (ho : o.op = .call { callee := .builtin .cap, args := #[x], argTypes := #[t] }) (ht : tab t = some td) (hk : td.kind = .slice e) (hx : aev fr x = some (.sl n sz i len (some k))) : ARead P nt o N fr H (.fv (.int .i64 k)) := by
  intro c a hN hs
  have hu := under_slice T ht hk
  obtain ⟨ad, c0, hv, _, _, h3, _⟩ := (aev_ok hs hx).sl_inv
  have e := h3 k rfl
  subst e
  refine ⟨.int .i64 k, fun w' hw' => ?_, .fv _ _ (.int ..)⟩
  simp [execOp, ho, resolve, invoke, builtin, Builtin.cap_, run_underlying hu, hv]; rfl

theorem ARead.capF {x : Operand} {t e : TypeId} {td : TD} {sz : Nat} {g : Nat → List FV} (ho : o.op = .call { callee := .builtin .cap, args := #[x], argTypes := #[t] }) (ht : tab t = some td) (hk : td.kind = .slice e) (hx : aev fr x = some (.fv (.sl sz true 0 g))) : ARead P nt o N fr H (.fv (.int .i64 0)) := by
  intro c a hN hs
  have hu := under_slice T ht hk
  have hv : a.eval x = .slice none 0 0 := by
    have h := (aev_ok hs hx).fv_inv
    generalize a.eval x = v at h
    cases h; rfl
  refine ⟨.int .i64 0, fun w' hw' => ?_, .fv _ _ (.int ..)⟩
  simp [execOp, ho, resolve, invoke, builtin, Builtin.cap_, run_underlying hu, hv]; rfl

omit T in
/-- A part of an object is written over by a row of elements. -/
def putRow (g : Nat → List AV) (i : Nat) (els : List (List AV)) : Nat → List AV := fun q => bif Nat.ble i q && Nat.blt q (i + els.length) then els.getD (q - i) [] else g q

omit T in
theorem putRow_in {g : Nat → List AV} {i q : Nat} {els : List (List AV)} (h1 : i ≤ q) (h2 : q < i + els.length) : putRow g i els q = els.getD (q - i) [] := by
  have e1 : Nat.ble i q = true := by rw [Nat.ble_eq]; exact h1
  have e2 : Nat.blt q (i + els.length) = true := by rw [Nat.blt_eq]; exact h2
  simp [putRow, e1, e2]

omit T in
theorem putRow_out {g : Nat → List AV} {i q : Nat} {els : List (List AV)} (h : q < i ∨ i + els.length ≤ q) : putRow g i els q = g q := by
  have : (Nat.ble i q && Nat.blt q (i + els.length)) = false := by
    cases hb : (Nat.ble i q && Nat.blt q (i + els.length)) with
    | false => rfl
    | true =>
      simp only [Bool.and_eq_true] at hb
      have h1 := Nat.le_of_ble_eq_true hb.1
      have h2 : q < i + els.length := by have := hb.2; rwa [Nat.blt_eq] at this
      omega
  simp [putRow, this]

omit T in
/-- Elements are written into an object. -/
theorem St.putRow {c : Cx} {n sz len i : Nat} {g : Nat → List AV} {tight : Bool} {els : List (List AV)} {vals : List Value} (hst : St c H) (hh : Has n (.arr sz len g tight) H Hr) (hn : n < c.N) (hi : i + els.length ≤ len)
    (hvl : vals.length = els.length * sz) (hone : ∀ v, v ∈ vals → v.oneCell' = true) (hwide : ∀ (q : Nat) (l : List AV), els[q]? = some l → l.length = sz)
    (hget : ∀ (q j : Nat) (l : List AV) y, els[q]? = some l → l[j]? = some y → VR c.w c.F c.ρ c.N y (vals.getD (q * sz + j) undef)) :
    ∃ c', (storeCells ⟨c.ρ n, i * sz, none⟩ vals).run P c.w = .ok () c'.w ∧ c'.N = c.N ∧ St c' ((n, .arr sz len (Sl.putRow g i els) tight) :: Hr) ∧ Step c c' := by
  obtain ⟨B0, hor⟩ := hh.mem hst.hr
  have hbnd : ∀ cells ty fz, c.w.heap[c.ρ n]? = some (.cells cells ty fz) → len * sz ≤ cells.size := by
    intro cells ty fz hb
    cases hor with
    | arr _ _ _ _ c2 ty2 fz2 vs Bs hn hb2 hfree hsize ht hsz hcell hval =>
      rw [hb] at hb2; cases hb2; exact hsize
  have hglen : ∀ q, q < len → (g q).length = sz := fun q hq => by
    cases hor with | arr _ _ _ _ _ _ _ _ _ _ _ _ _ _ hsz' => exact hsz' q hq
  have hfit : i * sz + els.length * sz ≤ len * sz := by rw [← Nat.add_mul]; exact Nat.mul_le_mul_right _ hi
  obtain ⟨c', hrun, hN', hρ', hF', hst', hstep⟩ := hst.writeG (P := P) hh (i * sz) vals hone
    (fun cells ty fz hb => by rw [hvl]; have := hbnd _ _ _ hb; omega) c.ρ c.N n len (Sl.putRow g i els) tight rfl hn (Nat.le_refl _) (fun _ _ => rfl) hbnd (fun h => ⟨rfl, h⟩)
    (fun q hq => by
      by_cases hqi : i ≤ q ∧ q < i + els.length
      · rw [putRow_in hqi.1 hqi.2]
        have hlt : q - i < els.length := by omega
        exact hwide (q - i) _ (getD_lt [] hlt)
      · rw [putRow_out (by omega)]; exact hglen q hq)
    (fun q k z hq hz => by
      rw [hvl]
      by_cases hqi : i ≤ q ∧ q < i + els.length
      · rw [putRow_in hqi.1 hqi.2] at hz
        have hlt : q - i < els.length := by omega
        have hl := getD_lt [] hlt
        have hk := len_of_get hz
        rw [hwide _ _ hl] at hk
        have e0 : q * sz + k - i * sz = (q - i) * sz + k := by
          have : q * sz = i * sz + (q - i) * sz := by rw [← Nat.add_mul]; congr 1; omega
          omega
        have h1 : i * sz ≤ q * sz := Nat.mul_le_mul_right _ hqi.1
        have h2 := place_lt (i := q - i) (len := els.length) hlt hk
        left
        refine ⟨by omega, by omega, ?_⟩
        rw [e0]
        exact hget _ k _ z hl hz
      · rw [putRow_out (by omega)] at hz
        right
        have hk := len_of_get hz
        rw [hglen q hq] at hk
        refine ⟨?_, hq, hz⟩
        by_cases h : q < i
        · left
          have : (q + 1) * sz ≤ i * sz := Nat.mul_le_mul_right _ h
          rw [Nat.add_mul] at this; omega
        · right
          have : (i + els.length) * sz ≤ q * sz := Nat.mul_le_mul_right _ (by omega)
          rw [Nat.add_mul] at this; omega)
  exact ⟨c', hrun, hN', hst', hstep⟩

/-- copy(dst, src), dst an object's part. -/
theorem AOp.copy {x y : Operand} {t t' e : TypeId} {td ed : TD} {n i len len2 : Nat} {cap : Option Nat} {g : Nat → List AV} {tight : Bool} {els els' : List (List AV)} (ho : o.op = .call { callee := .builtin .copy, args := #[x, y], argTypes := #[t, t'] })
    (ht : tab t = some td) (hk : td.kind = .slice e) (he : tab e = some ed) (hx : aev fr x = some (.sl n ed.size i len cap)) (hh : Has n (.arr ed.size len2 g tight) H Hr) (hy : ASrc fr H y ed.size els) (hone : els.all (fun l => l.all AV.one) = true)
    (hi : i + len ≤ len2) (he' : els.take len = els') :
    AOp P nt o N fr H fun N' r H' => N' = N ∧ r = .fv (.int .i64 els'.length) ∧ H' = (n, .arr ed.size len2 (putRow g i els') tight) :: Hr := by
  intro c a hN hs next Q hkk
  subst hN
  subst he'
  obtain ⟨nv, hsrc⟩ := hy.read hone hs
  have hus := under_slice T ht hk
  have hes := run_sizeOf' T he
  obtain ⟨ad, c0, hv, hn, hlc, _, had⟩ := (aev_ok hs hx).sl_inv
  have hmin : (els.take len).length = min len els.length := by simp
  have hsplit : nv.take ((els.take len).length * ed.size) ++ nv.drop ((els.take len).length * ed.size) = nv := List.take_append_drop ..
  have htl : (nv.take ((els.take len).length * ed.size)).length = (els.take len).length * ed.size := by
    rw [List.length_take, hsrc.len, hmin]
    have : min len els.length * ed.size ≤ els.length * ed.size := Nat.mul_le_mul_right _ (Nat.min_le_right ..)
    omega
  have tget : ∀ (q : Nat) l, (els.take len)[q]? = some l → q < len ∧ els[q]? = some l := fun q l h => by
    rw [List.getElem?_take] at h
    split at h
    · exact ⟨by assumption, h⟩
    · cases h
  obtain ⟨c', hrun, h1, h2, h3⟩ := St.putRow (P := P) (i := i) (els := els.take len) (vals := nv.take ((els.take len).length * ed.size)) hs.st hh hn (by rw [hmin]; omega) htl
    (fun v hv => hsrc.toV (P := P) |>.one hone v (List.mem_of_mem_take hv)) (fun q l h => hsrc.wide q l (tget q l h).2)
    (fun q j l y h1 h2 => by
      have hj := len_of_get h2
      rw [hsrc.wide q l (tget q l h1).2] at hj
      have := hsrc.get q j l y (tget q l h1).2 h2
      have hlt := place_lt (i := q) (len := (els.take len).length) (len_of_get h1) hj
      rw [List.getD_eq_getElem?_getD, List.getElem?_take, if_pos hlt, ← List.getD_eq_getElem?_getD]
      exact this)
  have hfirst : (Builtin.firstCells ed.size (els.take len).length (a.eval y)).run P c.w = .ok (nv.take ((els.take len).length * ed.size)).toArray c.w := by
    rcases hsrc.val with ⟨hv', hel⟩ | ⟨ad', k', hv', hc⟩
    · rw [hv', hel]; simp [Builtin.firstCells]
    · rw [hv']
      exact run_firstCells_some (P := P) c.w ed.size (els.take len).length ad' els.length k' _ htl fun j u hu => hc j u (by
        rw [List.getElem?_take] at hu
        split at hu
        · exact hu
        · cases hu)
  have hlen : (Builtin.lenOf (a.eval y)).run P c.w = .ok els.length c.w := hsrc.toV.lenv c.w
  have hmin' : Nat.min els.length len = (els.take len).length := by rw [hmin]; exact Nat.min_comm ..
  refine upon_value a next Q (w' := c'.w) (v := .int .i64 ((els.take len).length : Nat)) ?_ (hkk _ c' _ _ h2 h3 (.fv _ _ (.int ..)) ⟨h1, rfl, rfl⟩)
  have hcopy : (Builtin.copy_ #[t, t'] o.type #[.slice (some ad) len c0, a.eval y]).run P c.w = .ok (.int .i64 ((els.take len).length : Nat)) c'.w := by
    clear h1 h2 h3 htl tget hsplit hmin hkk
    generalize (els.take len).length = m at hfirst hmin' hrun
    by_cases h0 : 0 < c0
    · rw [had h0]
      simp [Builtin.copy_, run_underlying hus, hlen, hmin', hes, hfirst, hrun]
      rfl
    · have hz : len = 0 := by omega
      have hm0 : m = 0 := by rw [← hmin', hz]; exact Nat.min_zero _
      subst hm0
      simp only [Nat.zero_mul, List.take_zero] at hrun hfirst
      have hcw : c'.w = c.w := by
        simp [storeCells] at hrun
        exact hrun.symm
      simp [Builtin.copy_, run_underlying hus, hlen, hmin', hes, hfirst, storeCells, hcw]
      rfl
  simp only [execOp, ho, resolve, invoke, builtin, Sem.run_bind, Sem.run_pure, Result.andThen_ok, List.map_toArray, List.map_cons, List.map_nil, hv, hcopy]

/-- clear(s), s an object's part. -/
theorem AOp.clear {x : Operand} {t e : TypeId} {td ed : TD} {ag : Bool} {zs : List Z} {n i len len2 : Nat} {cap : Option Nat} {g : Nat → List AV} {tight : Bool} (ho : o.op = .call { callee := .builtin .clear, args := #[x], argTypes := #[t] })
    (ht : tab t = some td) (hk : td.kind = .slice e) (he : tab e = some ed) (hz : ed.zero = some (ag, zs)) (hzl : zs.length = ed.size) (hzo : zs.all (fun z => AV.one (.fv z.fv)) = true) (hx : aev fr x = some (.sl n ed.size i len cap)) (hh : Has n (.arr ed.size len2 g tight) H Hr) (hi : i + len ≤ len2) :
    AOp P nt o N fr H fun N' r H' => N' = N ∧ r = .junk ∧ H' = (n, .arr ed.size len2 (putRow g i (List.replicate len (zs.map fun z => AV.fv z.fv))) tight) :: Hr := by
  intro c a hN hs next Q hkk
  subst hN
  obtain ⟨inf, z, hinf, hzi, hsize, hbytes, hzs, hv0⟩ := info_of T he hz c
  have hus := under_slice T ht hk
  obtain ⟨ad, c0, hv, hn, hlc, _, had⟩ := (aev_ok hs hx).sl_inv
  have rget : ∀ (q : Nat) l, (List.replicate len (zs.map fun z => AV.fv z.fv))[q]? = some l → q < len ∧ l = zs.map fun z => AV.fv z.fv := fun q l h => by
    rw [List.getElem?_replicate] at h
    split at h
    · exact ⟨by assumption, by simpa using h.symm⟩
    · cases h
  have zget : ∀ (q j : Nat), q < len → j < ed.size → (Builtin.zeroCells z.cells len).toList.getD (q * ed.size + j) undef = z.cells.getD j undef := fun q j hq hj => by
    have hp := place_lt hq hj
    have e1 : (q * ed.size + j) % z.cells.size = j := by rw [hzs, hzl]; exact (divmod hj).2
    have hj2 : j < z.cells.size := by rw [hzs, hzl]; exact hj
    have hsz' : len * z.cells.size = len * ed.size := by rw [hzs, hzl]
    rw [List.getD_eq_getElem?_getD, Array.getElem?_toList]
    simp only [Builtin.zeroCells, Array.getElem?_map, hsz', Array.getElem?_range, hp, if_true, Option.map_some, Option.getD_some, e1]
    rw [getElem!_pos z.cells j hj2]
    simp [Array.getD, hj2]
  have hvl : (Builtin.zeroCells z.cells len).toList.length = (List.replicate len (zs.map fun z => AV.fv z.fv)).length * ed.size := by simp [Builtin.zeroCells, hzs, hzl]
  obtain ⟨c', hrun, h1, h2, h3⟩ := St.putRow (P := P) (i := i) (els := List.replicate len (zs.map fun z => AV.fv z.fv)) (vals := (Builtin.zeroCells z.cells len).toList) hs.st hh hn (by simpa using hi) hvl
    (fun v hvm => by
      obtain ⟨q, hq⟩ := List.mem_iff_getElem?.1 hvm
      have hql := len_of_get hq
      rw [hvl] at hql
      simp only [List.length_replicate] at hql
      obtain ⟨p1, p2, p3⟩ := place_of hql
      have e := zget _ _ p1 p2
      rw [← p3, List.getD_eq_getElem?_getD, hq] at e
      have hj : q % ed.size < zs.length := by rw [hzl]; exact p2
      have := hv0 (q % ed.size) (.fv zs[q % ed.size].fv) (by simp [hj])
      rw [← e] at this
      exact one_ok this (List.all_eq_true.1 hzo _ (List.getElem_mem hj)))
    (fun q l h => by rw [(rget q l h).2]; simp [hzl])
    (fun q j l y h1 h2 => by
      obtain ⟨hq, rfl⟩ := rget q l h1
      have hj := len_of_get h2
      rw [List.length_map, hzl] at hj
      rw [zget q j hq hj]
      exact hv0 j y h2)
  refine upon_value a next Q (w' := c'.w) (v := .tuple #[]) ?_ (hkk _ c' .junk _ h2 h3 (.junk _) ⟨h1, rfl, rfl⟩)
  by_cases h0 : len = 0
  · subst h0
    have hcw : c'.w = c.w := by
      simp [Builtin.zeroCells, storeCells] at hrun
      exact hrun.symm
    simp [execOp, ho, resolve, invoke, builtin, Builtin.clear_, run_underlying hus, hv, hcw]
  · rw [had (by omega)] at hv
    obtain ⟨m, rfl⟩ : ∃ m, len = m + 1 := ⟨len - 1, by omega⟩
    simp [execOp, ho, resolve, invoke, builtin, Builtin.clear_, run_underlying hus, hv, zeroValue, typeInfo, hinf, hzi, hrun]

end
end Go.Sl
