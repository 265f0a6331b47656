/- Writing into an object; stores; a value built of parts; calls. No condition. -/
import Derived.Test.YtfbagkifhpnfjaaSl8
namespace Go.Sl
open Go
set_option linter.unusedVariables false
set_option linter.unusedSimpArgs false
variable {P : Program}

theorem flatMap_sub {α β : Type} {f g : α → List β} : ∀ (l : List α), (∀ x, x ∈ l → (f x).Sublist (g x)) → (l.flatMap f).Sublist (l.flatMap g)
  | [], _ => List.Sublist.refl _
  | a :: l, h => by
    simp only [List.flatMap_cons]
    exact (h a (List.mem_cons_self ..)).append (flatMap_sub l fun x hx => h x (List.mem_cons_of_mem _ hx))

theorem gather_sub {sz len len' : Nat} {Bs Bs' : Nat → Nat → List Nat} (h : ∀ i j, i < len' → j < sz → Bs' i j = [] ∨ (i < len ∧ Bs' i j = Bs i j)) : (gather sz len' Bs').Sublist (gather sz len Bs) := by
  have key : ∀ m, m ≤ len' → (gather sz m Bs').Sublist (gather sz (min m len) Bs) := by
    intro m
    induction m with
    | zero => intro _; simp [gather]
    | succ m ih =>
      intro hm
      have ih' := ih (by omega)
      simp only [gather, List.range_succ, List.flatMap_append, List.flatMap_cons, List.flatMap_nil, List.append_nil]
      by_cases hml : m < len
      · have e : min (m + 1) len = min m len + 1 := by omega
        have e2 : min m len = m := by omega
        rw [e, List.range_succ]
        simp only [List.flatMap_append, List.flatMap_cons, List.flatMap_nil, List.append_nil]
        refine ih'.append ?_
        rw [e2]
        exact flatMap_sub _ fun j hj => by
          rcases h m j hm (List.mem_range.1 hj) with h0 | ⟨_, h0⟩
          · rw [h0]; exact List.nil_sublist _
          · rw [h0]; exact List.Sublist.refl _
      · have e : min (m + 1) len = min m len := by omega
        rw [e]
        have e0 : (List.range sz).flatMap (fun j => Bs' m j) = [] := by
          rw [List.eq_nil_iff_forall_not_mem]
          intro b hb
          obtain ⟨j, hj, hb⟩ := List.mem_flatMap.1 hb
          rcases h m j hm (List.mem_range.1 hj) with h0 | ⟨h0, _⟩
          · rw [h0] at hb; cases hb
          · exact hml h0
        rw [e0, List.append_nil]
        exact ih'
  have := key len' (Nat.le_refl _)
  refine this.trans ?_
  by_cases hl : len' ≤ len
  · have e : min len' len = len' := by omega
    rw [e]
    obtain ⟨k, rfl⟩ : ∃ k, len = len' + k := ⟨len - len', by omega⟩
    simp only [gather, List.range_add, List.flatMap_append]
    exact List.sublist_append_left _ _
  · have e : min len' len = len := by omega
    rw [e]; exact List.Sublist.refl _

/-- Cells are written into an object; it may get more elements, and another name. -/
theorem St.writeG {c : Cx} {H H' : Heap} {n sz len : Nat} {g : Nat → List AV} {tight : Bool} (hst : St c H) (hh : Has n (.arr sz len g tight) H H') (off : Nat) (vals : List Value) (hone : ∀ v, v ∈ vals → v.oneCell' = true)
    (hfit : ∀ cells ty fz, c.w.heap[c.ρ n]? = some (.cells cells ty fz) → off + vals.length ≤ cells.size)
    (ρ' : Nat → Nat) (N' n' len' : Nat) (g' : Nat → List AV) (tight' : Bool) (hρ : ρ' n' = c.ρ n) (hn' : n' < N') (hN : c.N ≤ N') (hρ' : ∀ k, k < c.N → ρ' k = c.ρ k)
    (hlen : ∀ cells ty fz, c.w.heap[c.ρ n]? = some (.cells cells ty fz) → len' * sz ≤ cells.size) (ht' : tight' = true → len' = len ∧ tight = true) (hsz' : ∀ i, i < len' → (g' i).length = sz)
    (hin : ∀ i j x, i < len' → (g' i)[j]? = some x → (off ≤ i * sz + j ∧ i * sz + j < off + vals.length ∧ VR c.w c.F c.ρ c.N x (vals.getD (i * sz + j - off) undef)) ∨ ((i * sz + j < off ∨ off + vals.length ≤ i * sz + j) ∧ i < len ∧ (g i)[j]? = some x)) :
    ∃ c', (storeCells ⟨c.ρ n, off, none⟩ vals).run P c.w = .ok () c'.w ∧ c'.N = N' ∧ c'.ρ = ρ' ∧ c'.F = c.F ∧ St c' ((n', .arr sz len' g' tight') :: H') ∧ Step c c' := by
  obtain ⟨B, Or, hor, hnd, hnF, hsw⟩ := hst.swap hh
  cases hor with
  | arr _ _ _ _ cells ty fz vs Bs hn hb hfree hsize ht hsz hcell hval =>
    have hlt := lt_of_heap hb
    have hrun := run_storeCellsB (P := P) (c.ρ n) ty fz vals cells c.w off 0 hb hfree (by simpa using hfit _ _ _ hb) hone
    rw [Nat.add_zero] at hrun
    have hfit' := hfit _ _ _ hb
    have hkeep : ∀ b, b < c.w.heap.size → b ≠ c.ρ n → (setBlock c.w (c.ρ n) (.cells (putCells cells off vals) ty fz)).heap[b]? = c.w.heap[b]? := fun b _ hne => by
      rw [setBlock_get _ _ _ _ hlt, if_neg hne]
    have hFk : ∀ b, c.F b → c.F b ∧ (setBlock c.w (c.ρ n) (.cells (putCells cells off vals) ty fz)).heap[b]? = c.w.heap[b]? := fun b hb' =>
      ⟨hb', hkeep b (hst.inF b hb') fun e => hnF (c.ρ n) (by simp) (e ▸ hb')⟩
    let Bs' : Nat → Nat → List Nat := fun i j => if (off ≤ i * sz + j ∧ i * sz + j < off + vals.length) ∨ len ≤ i then [] else Bs i j
    have hBs' : ∀ i j, i < len' → j < sz → Bs' i j = [] ∨ (i < len ∧ Bs' i j = Bs i j) := fun i j hi hj => by
      by_cases h : (off ≤ i * sz + j ∧ i * sz + j < off + vals.length) ∨ len ≤ i
      · exact .inl (if_pos h)
      · exact .inr ⟨by omega, if_neg h⟩
    have hsub := gather_sub hBs'
    have hnd' : (c.ρ n :: gather sz len' Bs').Nodup := hnd.sublist (List.Sublist.cons_cons _ hsub)
    have hor' : OR (setBlock c.w (c.ρ n) (.cells (putCells cells off vals) ty fz)) c.F ρ' N' n' (.arr sz len' g' tight') (ρ' n' :: gather sz len' Bs') := by
      refine .arr n' sz len' g' tight' (putCells cells off vals) ty fz (fun i j => (putCells cells off vals).getD (i * sz + j) undef) Bs' hn' (by rw [hρ, setBlock_get _ _ _ _ hlt, if_pos rfl]) ?_ (by rw [putCells_size]; exact hlen _ _ _ hb)
        (fun h => by obtain ⟨h1, h2⟩ := ht' h; rw [putCells_size, ht h2, h1]) hsz' ?_ ?_
      · intro o ho; rw [putCells_size] at ho; exact hfree o ho
      · intro i j x hi hx
        have hj := len_of_get hx
        rw [hsz' i hi] at hj
        have hp : i * sz + j < (putCells cells off vals).size := by
          rw [putCells_size]
          have h1 := hlen _ _ _ hb
          have : (i + 1) * sz ≤ len' * sz := Nat.mul_le_mul_right _ hi
          rw [Nat.add_mul] at this; omega
        rw [Array.getElem?_eq_getElem hp]; simp [Array.getD, hp]
      · intro i j x hi hx
        have hg := putCells_get vals cells off (i * sz + j) hfit'
        show CR _ _ _ _ x ((putCells cells off vals).getD (i * sz + j) undef) (Bs' i j)
        rw [Array.getD_eq_getD_getElem?, hg]
        rcases hin i j x hi hx with ⟨h1, h2, h3⟩ | ⟨h1, h2, h3⟩
        · rw [if_pos ⟨h1, h2⟩]
          have e : Bs' i j = [] := if_pos (.inl ⟨h1, h2⟩)
          rw [e]
          rw [List.getD_eq_getElem?_getD] at h3
          exact .val _ _ (h3.mono hFk hN hρ')
        · rw [if_neg (by omega), hcell i j x h2 h3]
          have e : Bs' i j = Bs i j := if_neg (by omega)
          rw [e]
          have hj := len_of_get h3
          rw [hsz i h2] at hj
          refine (hval i j x h2 h3).mono hFk hN hρ' fun b hb' => hkeep b ((hval i j x h2 h3).lt b hb') fun e => ?_
          subst e
          have := List.nodup_cons.1 hnd
          exact this.1 (mem_gather.2 ⟨i, j, h2, hj, hb'⟩)
    obtain ⟨h1, h2⟩ := hsw (setBlock c.w (c.ρ n) (.cells (putCells cells off vals) ty fz)) ρ' N' n' _ _ rfl rfl rfl (by rw [setBlock_size]; exact Nat.le_refl _) (fun b hb' hne => hkeep b hb' fun e => hne (by simp [e])) hN hρ' hor' (by rw [hρ]; exact hnd')
      (fun b hb' => by
        rcases List.mem_cons.1 hb' with rfl | hb'
        · rw [hρ]; exact .inl (by simp)
        · exact .inl (List.mem_cons_of_mem _ (hsub.subset hb')))
    exact ⟨⟨setBlock c.w (c.ρ n) (.cells (putCells cells off vals) ty fz), c.F, ρ', N', ρ' n' :: gather sz len' Bs' ++ Or⟩, hrun, rfl, rfl, rfl, h1, h2⟩

def updG (g : Nat → List AV) (i : Nat) (l : List AV) : Nat → List AV := fun q => bif Nat.beq q i then l else g q

theorem updG_same (g : Nat → List AV) (i : Nat) (l : List AV) : updG g i l i = l := by simp [updG, Nat.beq_refl]
theorem updG_ne {g : Nat → List AV} {i q : Nat} {l : List AV} (h : q ≠ i) : updG g i l q = g q := by
  have : Nat.beq q i = false := by
    cases hb : Nat.beq q i with
    | true => exact absurd (Nat.eq_of_beq_eq_true hb) h
    | false => rfl
  simp [updG, this]

theorem OR.congr {w : World} {F : Nat → Prop} {ρ : Nat → Nat} {N n sz len : Nat} {g g' : Nat → List AV} {tight : Bool} {B : List Nat} (h : OR w F ρ N n (.arr sz len g tight) B) (hg : ∀ i, i < len → g i = g' i) : OR w F ρ N n (.arr sz len g' tight) B := by
  cases h with
  | arr _ _ _ _ c ty fz vs Bs hn hb hfree hsize ht hsz hcell hval =>
    exact .arr n sz len g' tight c ty fz vs Bs hn hb hfree hsize ht (fun i hi => hg i hi ▸ hsz i hi) (fun i j x hi hx => hcell i j x hi (by rw [hg i hi]; exact hx)) (fun i j x hi hx => hval i j x hi (by rw [hg i hi]; exact hx))

theorem OR.loose {w : World} {F : Nat → Prop} {ρ : Nat → Nat} {N n sz len : Nat} {g : Nat → List AV} {tight : Bool} {B : List Nat} (h : OR w F ρ N n (.arr sz len g tight) B) : OR w F ρ N n (.arr sz len g false) B := by
  cases h with
  | arr _ _ _ _ c ty fz vs Bs hn hb hfree hsize ht hsz hcell hval =>
    exact .arr n sz len g false c ty fz vs Bs hn hb hfree hsize (fun h => by cases h) hsz hcell hval

/-- The head object is told otherwise. -/
theorem St.head {c : Cx} {H : Heap} {n : Nat} {o o' : AObj} (hst : St c ((n, o) :: H)) (h : ∀ B, OR c.w c.F c.ρ c.N n o B → OR c.w c.F c.ρ c.N n o' B) : St c ((n, o') :: H) := by
  obtain ⟨hr, h1, h2, h3⟩ := hst
  refine ⟨?_, h1, h2, h3⟩
  generalize c.Own = O at hr
  cases hr with
  | cons _ _ _ B Own ho hH => exact HR.cons n o' H B Own (h B ho) hH

section
variable {tab : TypeId → Option TD} (T : TabOk P tab) {nt N : Nat} {o : Oper} {fr : Frame} {H Hr : Heap}
include T

/-- A store into an element. -/
theorem AOp.store {t : TypeId} {td : TD} {x y : Operand} {n sz len i j : Nat} {g : Nat → List AV} {tight : Bool} {r : AV} (ho : o.op = .store t x y) (ht : tab t = some td) (hx : aev fr x = some (.ptr n sz i j)) (hy : aev fr y = some r)
    (hh : Has n (.arr sz len g tight) H Hr) (hi : i < len) (hsz : (acells r).length = td.size) (hj : j + td.size ≤ sz) (hone : (acells r).all AV.one = true) :
    AOp P nt o N fr H fun N' r' H' => N' = N ∧ r' = .junk ∧ H' = (n, .arr sz len (updG g i (setCells (g i) j (acells r))) tight) :: Hr := by
  intro c a hN hs next Q hk
  subst hN
  obtain ⟨hv, hn⟩ := (aev_ok hs hx).ptr_inv
  have hrs : r.sound = true := by
    cases r <;> simp_all [acells, AV.one, AV.sound]
  obtain ⟨hl, hval⟩ := acells_ok (aev_ok hs hy) hrs
  obtain ⟨B0, hor⟩ := hh.mem hs.st.hr
  have hszz := run_sizeOf' T ht
  have hglen : (g i).length = sz := by
    cases hor with | arr _ _ _ _ _ _ _ _ _ _ _ _ _ _ hsz' => exact hsz' i hi
  have hbnd : ∀ cells ty fz, c.w.heap[c.ρ n]? = some (.cells cells ty fz) → len * sz ≤ cells.size := by
    intro cells ty fz hb
    cases hor with
    | arr _ _ _ _ c2 ty2 fz2 vs Bs hn hb2 hfree hsize ht hsz hcell hval =>
      rw [hb] at hb2; cases hb2; exact hsize
  have hcl : (a.eval y).cells.toList.length = td.size := by rw [← hsz, hl]; simp
  have hfit : i * sz + j + td.size ≤ len * sz := by
    have : (i + 1) * sz ≤ len * sz := Nat.mul_le_mul_right _ hi
    rw [Nat.add_mul] at this; omega
  obtain ⟨c', hrun, hN', hρ', hF', hst', hstep⟩ := hs.st.writeG (P := P) hh (i * sz + j) (a.eval y).cells.toList
    (fun v hvm => by
      obtain ⟨q, hq⟩ := List.mem_iff_getElem?.1 hvm
      have hql := len_of_get hq
      have hq' : q < (acells r).length := by rw [hsz, ← hcl]; exact hql
      have := hval q _ (List.getElem?_eq_getElem hq')
      have h1 := List.all_eq_true.1 hone (acells r)[q] (List.getElem_mem hq')
      have e : (a.eval y).cells.getD q undef = v := by
        rw [Array.getD_eq_getD_getElem?]
        have : (a.eval y).cells[q]? = some v := by simpa using hq
        rw [this]; rfl
      rw [e] at this
      exact one_ok this h1)
    (fun cells ty fz hb => by rw [hcl]; have := hbnd _ _ _ hb; omega) c.ρ c.N n len (updG g i (setCells (g i) j (acells r))) tight rfl hn (Nat.le_refl _) (fun _ _ => rfl) hbnd (fun h => ⟨rfl, h⟩)
    (fun q hq => by
      by_cases hqi : q = i
      · subst hqi; rw [updG_same, setCells_len]; exact hglen
      · rw [updG_ne hqi]
        cases hor with | arr _ _ _ _ _ _ _ _ _ _ _ _ _ _ hsz' => exact hsz' q hq)
    (fun q k z hq hz => by
      rw [hcl]
      by_cases hqi : q = i
      · subst hqi
        rw [updG_same] at hz
        rcases setCells_get _ _ _ _ _ hz with ⟨h1, h2, h3⟩ | ⟨h1, h2⟩
        · left
          refine ⟨by omega, by omega, ?_⟩
          have := hval (k - j) z h3
          rw [List.getD_eq_getElem?_getD, show q * sz + k - (q * sz + j) = k - j by omega]
          rw [Array.getD_eq_getD_getElem?] at this
          simpa using this
        · right
          exact ⟨by omega, hq, h2⟩
      · rw [updG_ne hqi] at hz
        right
        have hk := len_of_get hz
        have hgl : (g q).length = sz := by
          cases hor with | arr _ _ _ _ _ _ _ _ _ _ _ _ _ _ hsz' => exact hsz' q hq
        refine ⟨?_, hq, hz⟩
        rcases Nat.lt_or_gt_of_ne hqi with h | h
        · have : (q + 1) * sz ≤ i * sz := Nat.mul_le_mul_right _ h
          rw [Nat.add_mul] at this; omega
        · have : (i + 1) * sz ≤ q * sz := Nat.mul_le_mul_right _ h
          rw [Nat.add_mul] at this; omega)
  refine upon_skip a next Q (w' := c'.w) ?_ (hk _ c' .junk _ hst' hstep (.junk _) ⟨hN', rfl, rfl⟩)
  have hne : ¬ ((a.eval y).cells.size ≠ td.size) := by rw [← hcl]; simp
  simp only [execOp, ho, hv, Instr.storeAt, Instr.sureAddr, storeVar, Sem.run_bind, Sem.run_pure, Result.andThen_ok, hszz, if_neg hne, hrun]

/-- A store into a variable. -/
theorem AOp.storeV {t : TypeId} {td : TD} {x y : Operand} {n j : Nat} {cs : List AV} {r : AV} (ho : o.op = .store t x y) (ht : tab t = some td) (hx : aev fr x = some (.ptr n cs.length 0 j)) (hy : aev fr y = some r)
    (hh : Has n (vr cs) H Hr) (hsz : (acells r).length = td.size) (hj : j + td.size ≤ cs.length) (hone : (acells r).all AV.one = true) :
    AOp P nt o N fr H fun N' r' H' => N' = N ∧ r' = .junk ∧ H' = (n, vr (setCells cs j (acells r))) :: Hr := by
  intro c a hN hs next Q hk
  refine AOp.store T ho ht hx hy hh (by omega) hsz hj hone c a hN hs next Q fun v c' r' H' h1 h2 h3 h4 => ?_
  obtain ⟨e1, e2, rfl⟩ := h4
  refine hk v c' r' _ (h1.head (o' := vr (setCells cs j (acells r))) fun B hB => ?_) h2 h3 ⟨e1, e2, rfl⟩
  have := hB.congr (g' := fun _ => setCells cs j (acells r)) (fun i hi => by obtain rfl : i = 0 := (by omega); rw [updG_same])
  show OR _ _ _ _ n (.arr (setCells cs j (acells r)).length 1 _ true) B
  rw [setCells_len]; exact this

end
end Go.Sl
