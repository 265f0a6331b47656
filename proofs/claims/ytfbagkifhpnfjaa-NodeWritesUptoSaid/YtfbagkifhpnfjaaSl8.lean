/- Operations that make or write memory; calls; as rules. No condition. -/
import Derived.Test.YtfbagkifhpnfjaaSl7
namespace Go.Sl
open Go
set_option linter.unusedVariables false
set_option linter.unusedSimpArgs false
variable {P : Program}

theorem gather_nil (sz len : Nat) : gather sz len (fun _ _ => []) = [] := by
  rw [List.eq_nil_iff_forall_not_mem]
  intro b hb
  obtain ⟨_, _, _, _, h⟩ := mem_gather.1 hb
  cases h

def upd (ρ : Nat → Nat) (n b : Nat) : Nat → Nat := fun k => if k = n then b else ρ k

theorem upd_same (ρ : Nat → Nat) (n b : Nat) : upd ρ n b n = b := by simp [upd]
theorem upd_lt {ρ : Nat → Nat} {N b : Nat} : ∀ n, n < N → upd ρ N b n = ρ n := fun n h => by simp [upd, Nat.ne_of_lt h]

theorem heap_alloc_lt (w : World) (o : Obj) {b : Nat} (h : b < w.heap.size) : (w.alloc o).heap[b]? = w.heap[b]? := by
  simp only [World.alloc]; rw [Array.getElem?_push, if_neg (by omega)]

theorem heap_alloc_new (w : World) (o : Obj) : (w.alloc o).heap[w.heap.size]? = some o := by
  show (w.heap.push o)[w.heap.size]? = some o
  simp

/-- One object is changed, or takes another's place. -/
theorem St.swap {c : Cx} {H H' : Heap} {n : Nat} {o : AObj} (hst : St c H) (hh : Has n o H H') : ∃ B Or, OR c.w c.F c.ρ c.N n o B ∧ B.Nodup ∧ (∀ b, b ∈ B → ¬ c.F b) ∧
    ∀ (w' : World) (ρ' : Nat → Nat) (N' n' : Nat) (o' : AObj) (B' : List Nat), w'.os = c.w.os → w'.tape = c.w.tape → w'.output = c.w.output → c.w.heap.size ≤ w'.heap.size →
      (∀ b, b < c.w.heap.size → b ∉ B → w'.heap[b]? = c.w.heap[b]?) → c.N ≤ N' → (∀ n, n < c.N → ρ' n = c.ρ n) → OR w' c.F ρ' N' n' o' B' → B'.Nodup → (∀ b, b ∈ B' → b ∈ B ∨ c.w.heap.size ≤ b) →
      St ⟨w', c.F, ρ', N', B' ++ Or⟩ ((n', o') :: H') ∧ Step c ⟨w', c.F, ρ', N', B' ++ Or⟩ := by
  obtain ⟨B, Or, ho, hr, hp⟩ := hh.split hst.hr
  have hH1 : HR c.w c.F c.ρ c.N [(n, o)] B := by have := HR.cons n o [] B [] ho .nil; simpa using this
  have hst0 : St { c with Own := B ++ Or } ([(n, o)] ++ H') := hst.perm (hH1.app hr) hp
  have hstep0 := Step.reown c (B ++ Or) fun b hb => hp.mem_iff.2 hb
  refine ⟨B, Or, ho, (List.nodup_append.1 hst0.nodup).1, fun b hb => hst0.notF b (List.mem_append_left _ hb), ?_⟩
  intro w' ρ' N' n' o' B' h1 h2 h3 h4 h5 h6 h7 h8 h9 h10
  have hnF : ∀ b, b ∈ B' → ¬ c.F b := fun b hb hF => by
    rcases h10 b hb with h | h
    · exact hst0.notF b (List.mem_append_left _ h) hF
    · exact absurd (hst.inF b hF) (by omega)
  have hL : HR w' c.F ρ' N' [(n', o')] B' := by have := HR.cons n' o' [] B' [] h8 .nil; simpa using this
  have h2' : St ⟨w', c.F, ρ', N', B'⟩ [(n', o')] := ⟨hL, h9, hnF, fun b hb => Nat.lt_of_lt_of_le (hst.inF b hb) h4⟩
  have hs' : Step { { c with Own := B ++ Or } with Own := B } ⟨w', c.F, ρ', N', B'⟩ :=
    ⟨h1, h2, h3, h4, h5, fun b hb => hb, fun b hb => .inl hb, h10, h6, h7⟩
  obtain ⟨g1, g2⟩ := frame_back hst0 hH1 hr rfl h2' hs'
  exact ⟨g1, hstep0.trans g2⟩

/-- A new object. -/
theorem St.new {c : Cx} {H : Heap} (hst : St c H) (ob : Obj) (o : AObj) (ho : OR (c.w.alloc ob) c.F (upd c.ρ c.N c.w.heap.size) (c.N + 1) c.N o [c.w.heap.size]) :
    St ⟨c.w.alloc ob, c.F, upd c.ρ c.N c.w.heap.size, c.N + 1, c.w.heap.size :: c.Own⟩ ((c.N, o) :: H) ∧ Step c ⟨c.w.alloc ob, c.F, upd c.ρ c.N c.w.heap.size, c.N + 1, c.w.heap.size :: c.Own⟩ := by
  have hr : HR (c.w.alloc ob) c.F (upd c.ρ c.N c.w.heap.size) (c.N + 1) H c.Own := hst.hr.mono (fun b hb => ⟨hb, heap_alloc_lt _ _ (hst.inF b hb)⟩) (by omega) upd_lt (fun b hb => heap_alloc_lt _ _ (hst.hr.lt b hb))
  refine ⟨⟨.cons _ _ _ [_] _ ho hr, ?_, ?_, ?_⟩, ?_⟩
  · exact List.nodup_cons.2 ⟨fun hm => absurd (hst.hr.lt _ hm) (by omega), hst.nodup⟩
  · intro b hb hF
    rcases List.mem_cons.1 hb with rfl | hb
    · exact absurd (hst.inF _ hF) (by omega)
    · exact hst.notF b hb hF
  · intro b hb; have := hst.inF b hb; rw [World.size_alloc]; omega
  · exact ⟨rfl, rfl, rfl, by rw [World.size_alloc]; omega, fun b hb _ => heap_alloc_lt _ _ hb, fun _ h => h, fun _ h => .inl h,
      fun b hb => by rcases List.mem_cons.1 hb with rfl | hb; exact .inr (Nat.le_refl _); exact .inl hb, by simp, upd_lt⟩

/-- The context behind a new block. -/
def Cx.new (c : Cx) (ob : Obj) : Cx := ⟨c.w.alloc ob, c.F, upd c.ρ c.N c.w.heap.size, c.N + 1, c.w.heap.size :: c.Own⟩

theorem free_none (c : Array Value) : Free c (0, 0) := fun o _ h => absurd h.2 (by omega)

/-- A new row of cells. -/
theorem St.newArr {c : Cx} {H : Heap} (hst : St c H) (cells : Array Value) (ty : TypeId) (sz len : Nat) (g : Nat → List AV) (tight : Bool) (hsize : len * sz ≤ cells.size) (ht : tight = true → cells.size = len * sz)
    (hsz : ∀ i, i < len → (g i).length = sz) (hv : ∀ i j x, i < len → (g i)[j]? = some x → VR c.w c.F c.ρ c.N x (cells.getD (i * sz + j) undef)) :
    St (c.new (.cells cells ty)) ((c.N, .arr sz len g tight) :: H) ∧ Step c (c.new (.cells cells ty)) := by
  refine hst.new (.cells cells ty) (.arr sz len g tight) ?_
  have h := OR.arr (w := c.w.alloc (.cells cells ty)) (F := c.F) (ρ := upd c.ρ c.N c.w.heap.size) (N := c.N + 1) c.N sz len g tight cells ty (0, 0) (fun i j => cells.getD (i * sz + j) undef) (fun _ _ => [])
    (by omega) (by rw [upd_same]; exact heap_alloc_new _ _) (free_none _) hsize ht hsz ?_ ?_
  · rw [upd_same, gather_nil] at h; exact h
  · intro i j x hi hx
    have hj := len_of_get hx
    rw [hsz i hi] at hj
    have hlt : i * sz + j < cells.size := by
      have : (i + 1) * sz ≤ len * sz := Nat.mul_le_mul_right _ hi
      rw [Nat.add_mul] at this; omega
    rw [Array.getElem?_eq_getElem hlt]; simp [Array.getD, hlt]
  · intro i j x hi hx
    exact .val _ _ ((hv i j x hi hx).mono (fun b hb => ⟨hb, heap_alloc_lt _ _ (hst.inF b hb)⟩) (by omega) upd_lt)

theorem get_rep {α : Type} {ez : List α} : ∀ (n i j : Nat) (z : α), i < n → ez[j]? = some z → ((List.replicate n ez).flatten)[i * ez.length + j]? = some z := by
  intro n
  induction n with
  | zero => intro i j z hi; omega
  | succ n ih =>
    intro i j z hi hz'
    rw [List.replicate_succ, List.flatten_cons]
    have hj := len_of_get hz'
    cases i with
    | zero => rw [Nat.zero_mul, Nat.zero_add, List.getElem?_append_left hj]; exact hz'
    | succ i =>
      rw [Nat.succ_mul, List.getElem?_append_right (by omega), show i * ez.length + ez.length + j - ez.length = i * ez.length + j by omega]
      exact ih i j z (by omega) hz'

/-- A value's cells. -/
def acells : AV → List AV
  | .agg cs => cs
  | x => [x]

def AV.sound : AV → Bool
  | .junk | .ifb .. | .osl .. | .optr .. => false
  | _ => true

theorem acells_ok {w : World} {F : Nat → Prop} {ρ : Nat → Nat} {N : Nat} {x : AV} {v : Value} (h : VR w F ρ N x v) (hs : x.sound = true) :
    (acells x).length = v.cells.size ∧ ∀ (j : Nat) (y : AV), (acells x)[j]? = some y → VR w F ρ N y (v.cells.getD j undef) := by
  have one : ∀ {x : AV} {v : Value}, VR w F ρ N x v → [x].length = #[v].size ∧ ∀ (j : Nat) (y : AV), [x][j]? = some y → VR w F ρ N y (#[v].getD j undef) := by
    intro x v h
    refine ⟨rfl, fun j y hy => ?_⟩
    cases j with
    | zero => simp at hy; subst hy; exact h
    | succ j => simp at hy
  cases h with
  | agg cs vs hl hv => exact ⟨hl, hv⟩
  | junk v => simp [AV.sound] at hs
  | ifb => simp [AV.sound] at hs
  | fv x v hf => cases hf <;> exact one (.fv _ _ (by constructor <;> assumption))
  | ptr => exact one (.ptr _ _ _ _ (by assumption))
  | sl => exact one (.sl _ _ _ _ _ _ _ (by assumption) (by assumption) (by assumption) (by assumption))
  | map => exact one (.map _ (by assumption))
  | rowNil => exact one (.rowNil _ (by assumption))
  | row => exact one (.row _ _ (by assumption))
  | ref => exact one (.ref _ (by assumption))
  | fn => exact one (.fn _ _ _ _ _ (by assumption) (by assumption) (by assumption) (by assumption))
  | iface => exact one (.iface _ _ _ (by assumption))
  | tuple => exact one (.tuple _ _ (by assumption) (by assumption))

section
variable {tab : TypeId → Option TD} (T : TabOk P tab) {nt N : Nat} {o : Oper} {fr : Frame} {H : Heap}

theorem upon_value (a : Act) (next : Act → World → Prop) (Q : Exit → Act → World → Prop) {v : Value} {w w' : World} (h : (execOp a.eval o).run P w = .ok (.value v) w') (hn : next (a.put o.dst v) w') : o.wp P a w next Q := by
  unfold Oper.wp; rw [h]; exact hn

theorem upon_skip (a : Act) (next : Act → World → Prop) (Q : Exit → Act → World → Prop) {w w' : World} (h : (execOp a.eval o).run P w = .ok .skip w') (hn : next (a.put o.dst undef) w') : o.wp P a w next Q := by
  unfold Oper.wp; rw [h]; exact hn

include T

theorem AOp.alloc {t : TypeId} {td : TD} {ag : Bool} {zs : List Z} (ho : o.op = .alloc t) (ht : tab t = some td) (hz : td.zero = some (ag, zs)) :
    AOp P nt o N fr H fun N' r H' => N' = N + 1 ∧ r = .ptr N (zs.map fun z => AV.fv z.fv).length 0 0 ∧ H' = (N, vr (zs.map fun z => AV.fv z.fv)) :: H := by
  intro c a hN hs next Q hk
  subst hN
  obtain ⟨v, hrun, hzv, _⟩ := run_zero T ht hz
  obtain ⟨hl, hv⟩ := zeros_ok hzv c.w c.F c.ρ c.N
  have hl' : (zs.map fun z => AV.fv z.fv).length = v.cells.size := by simpa using hl
  obtain ⟨h1, h2⟩ := hs.st.newArr v.cells t (zs.map fun z => AV.fv z.fv).length 1 (fun _ => zs.map fun z => AV.fv z.fv) true (by omega) (fun _ => by omega) (fun _ _ => rfl)
    (fun i j x hi hx => by obtain rfl : i = 0 := (by omega); simpa using hv j x hx)
  refine upon_value a next Q (w' := (c.new (.cells v.cells t)).w) (v := .pointer (some ⟨c.w.heap.size, 0, none⟩)) ?_ ?_
  · simp [execOp, ho, Instr.alloc, hrun, newVar, newRow, Cx.new]
  · refine hk _ (c.new (.cells v.cells t)) _ _ h1 h2 ?_ ⟨rfl, rfl, rfl⟩
    have := VR.ptr (w := (c.new (.cells v.cells t)).w) (F := (c.new (.cells v.cells t)).F) (ρ := (c.new (.cells v.cells t)).ρ) (N := (c.new (.cells v.cells t)).N) c.N (zs.map fun z => AV.fv z.fv).length 0 0 (by simp [Cx.new])
    simpa [Cx.new, upd_same] using this

/-- An array, element by element. -/
theorem AOp.allocArr {t e : TypeId} {td ed : TD} {ag ag' : Bool} {n : Nat} {zs ez : List Z} (ho : o.op = .alloc t) (ht : tab t = some td) (hz : td.zero = some (ag, zs)) (hk' : td.kind = .arr n e) (he : tab e = some ed) (hez : ed.zero = some (ag', ez))
    (hzz : zs = (List.replicate n ez).flatten) :
    AOp P nt o N fr H fun N' r H' => N' = N + 1 ∧ r = .ptr N ez.length 0 0 ∧ H' = (N, .arr ez.length n (fun _ => ez.map fun z => AV.fv z.fv) true) :: H := by
  intro c a hN hs next Q hk
  subst hN
  obtain ⟨v, hrun, hzv, _⟩ := run_zero T ht hz
  obtain ⟨hl, hv⟩ := zeros_ok hzv c.w c.F c.ρ c.N
  have hlen : zs.length = n * ez.length := by rw [hzz]; simp
  have hget : ∀ i j z, i < n → ez[j]? = some z → zs[i * ez.length + j]? = some z := fun i j z hi hz' => by rw [hzz]; exact get_rep n i j z hi hz'
  obtain ⟨h1, h2⟩ := hs.st.newArr v.cells t ez.length n (fun _ => ez.map fun z => AV.fv z.fv) true (by omega) (fun _ => by omega) (fun _ _ => by simp)
    (fun i j x hi hx => by
      simp only [List.getElem?_map, Option.map_eq_some_iff] at hx
      obtain ⟨z, hz', rfl⟩ := hx
      exact hv _ _ (by simp [hget i j z hi hz']))
  refine upon_value a next Q (w' := (c.new (.cells v.cells t)).w) (v := .pointer (some ⟨c.w.heap.size, 0, none⟩)) ?_ ?_
  · simp [execOp, ho, Instr.alloc, hrun, newVar, newRow, Cx.new]
  · refine hk _ (c.new (.cells v.cells t)) _ _ h1 h2 ?_ ⟨rfl, rfl, rfl⟩
    have := VR.ptr (w := (c.new (.cells v.cells t)).w) (F := (c.new (.cells v.cells t)).F) (ρ := (c.new (.cells v.cells t)).ρ) (N := (c.new (.cells v.cells t)).N) c.N ez.length 0 0 (by simp [Cx.new])
    simpa [Cx.new, upd_same] using this

omit T in
theorem AOp.box {t : TypeId} {x : Operand} {r : AV} (ho : o.op = .box t x) (hx : aev fr x = some r) (hsd : r.sound = true) :
    AOp P nt o N fr H fun N' r' H' => N' = N + 1 ∧ r' = .ptr N (acells r).length 0 0 ∧ H' = (N, vr (acells r)) :: H := by
  intro c a hN hs next Q hk
  subst hN
  obtain ⟨hl, hv⟩ := acells_ok (aev_ok hs hx) hsd
  obtain ⟨h1, h2⟩ := hs.st.newArr (a.eval x).cells t (acells r).length 1 (fun _ => acells r) true (by omega) (fun _ => by omega) (fun _ _ => rfl)
    (fun i j x hi hx => by obtain rfl : i = 0 := (by omega); simpa using hv j x hx)
  refine upon_value a next Q (w' := (c.new (.cells (a.eval x).cells t)).w) (v := .pointer (some ⟨c.w.heap.size, 0, none⟩)) ?_ ?_
  · simp [execOp, ho, Instr.box, newVar, newRow, Cx.new]
  · refine hk _ (c.new (.cells (a.eval x).cells t)) _ _ h1 h2 ?_ ⟨rfl, rfl, rfl⟩
    have := VR.ptr (w := (c.new (.cells (a.eval x).cells t)).w) (F := (c.new (.cells (a.eval x).cells t)).F) (ρ := (c.new (.cells (a.eval x).cells t)).ρ) (N := (c.new (.cells (a.eval x).cells t)).N) c.N (acells r).length 0 0 (by simp [Cx.new])
    simpa [Cx.new, upd_same] using this

/-- Cells are written over. -/
def setCells : List AV → Nat → List AV → List AV
  | l, 0, [] => l
  | [], _, _ => []
  | _ :: l, 0, x :: cs => x :: setCells l 0 cs
  | a :: l, j + 1, cs => a :: setCells l j cs

omit T in
theorem setCells_len : ∀ (l : List AV) (j : Nat) (cs : List AV), (setCells l j cs).length = l.length
  | l, 0, [] => by cases l <;> rfl
  | [], 0, _ :: _ => rfl
  | [], j + 1, cs => rfl
  | _ :: l, 0, x :: cs => by simp [setCells, setCells_len l 0 cs]
  | a :: l, j + 1, cs => by simp [setCells, setCells_len l j cs]

omit T in
theorem setCells_get : ∀ (l : List AV) (j : Nat) (cs : List AV) (k : Nat) (y : AV), (setCells l j cs)[k]? = some y → (j ≤ k ∧ k < j + cs.length ∧ cs[k - j]? = some y) ∨ ((k < j ∨ j + cs.length ≤ k) ∧ l[k]? = some y)
  | l, 0, [], k, y, h => by cases l <;> exact .inr ⟨.inr (by simp), h⟩
  | [], 0, _ :: _, k, y, h => by simp [setCells] at h
  | [], j + 1, cs, k, y, h => by simp [setCells] at h
  | a :: l, 0, x :: cs, k, y, h => by
    simp only [setCells] at h
    cases k with
    | zero => simp at h; subst h; exact .inl ⟨Nat.le_refl _, by simp, rfl⟩
    | succ k =>
      simp only [List.getElem?_cons_succ] at h
      rcases setCells_get l 0 cs k y h with ⟨_, h2, h3⟩ | ⟨h1, h2⟩
      · exact .inl ⟨Nat.zero_le _, by simp; omega, by simpa using h3⟩
      · refine .inr ⟨?_, by simpa using h2⟩
        rcases h1 with h1 | h1
        · omega
        · simp; omega
  | a :: l, j + 1, cs, k, y, h => by
    simp only [setCells] at h
    cases k with
    | zero => simp at h; subst h; exact .inr ⟨.inl (by omega), rfl⟩
    | succ k =>
      simp only [List.getElem?_cons_succ] at h
      rcases setCells_get l j cs k y h with ⟨h1, h2, h3⟩ | ⟨h1, h2⟩
      · exact .inl ⟨by omega, by omega, by rw [show k + 1 - (j + 1) = k - j by omega]; exact h3⟩
      · exact .inr ⟨by omega, by simpa using h2⟩

/-- Cells stored one behind the other into a block. -/
def putCells (c : Array Value) (o : Nat) : List Value → Array Value
  | [] => c
  | v :: vs => putCells (c.setIfInBounds o v) (o + 1) vs

omit T in
theorem putCells_size : ∀ (vs : List Value) (c : Array Value) (o : Nat), (putCells c o vs).size = c.size
  | [], c, o => rfl
  | v :: vs, c, o => by simp [putCells, putCells_size vs]

omit T in
theorem putCells_get : ∀ (vs : List Value) (c : Array Value) (o k : Nat), o + vs.length ≤ c.size → (putCells c o vs)[k]? = if o ≤ k ∧ k < o + vs.length then vs[k - o]? else c[k]?
  | [], c, o, k, h => by simp [putCells]; intro h1 h2; omega
  | v :: vs, c, o, k, h => by
    simp only [List.length_cons] at h
    rw [putCells, putCells_get vs _ _ k (by simp; omega)]
    by_cases h1 : o + 1 ≤ k ∧ k < o + 1 + vs.length
    · rw [if_pos h1, if_pos (by simp; omega), show k - o = (k - (o + 1)) + 1 by omega, List.getElem?_cons_succ]
    · rw [if_neg h1]
      by_cases h2 : k = o
      · subst h2
        have hlt : k < c.size := by omega
        rw [if_pos (by simp), Nat.sub_self, Array.getElem?_setIfInBounds, if_pos rfl, if_pos hlt]; rfl
      · rw [if_neg (by simp; omega), Array.getElem?_setIfInBounds_ne (Ne.symm h2)]

def setBlock (w : World) (b : Nat) (o : Obj) : World := { w with heap := w.heap.setIfInBounds b o }

omit T in
theorem setBlock_get (w : World) (b : Nat) (o : Obj) (k : Nat) (h : b < w.heap.size) : (setBlock w b o).heap[k]? = if k = b then some o else w.heap[k]? := by
  simp only [setBlock, Array.getElem?_setIfInBounds]
  by_cases hk : b = k
  · subst hk; simp [h]
  · simp [hk, Ne.symm hk]

omit T in
theorem setBlock_size (w : World) (b : Nat) (o : Obj) : (setBlock w b o).heap.size = w.heap.size := by simp [setBlock]

omit T in
theorem run_storeCellsB (b : Nat) (ty : TypeId) (fz : Nat × Nat) : ∀ (vs : List Value) (c : Array Value) (w : World) (off i : Nat), w.heap[b]? = some (.cells c ty fz) → Free c fz → off + i + vs.length ≤ c.size → (∀ v, v ∈ vs → v.oneCell' = true) →
    (storeCells ⟨b, off, none⟩ vs i).run P w = .ok () (setBlock w b (.cells (putCells c (off + i) vs) ty fz))
  | [], c, w, off, i, hb, hf, hl, hv => by
    have hlt := lt_of_heap hb
    have e : setBlock w b (.cells c ty fz) = w := by
      simp only [setBlock]
      have : w.heap.setIfInBounds b (.cells c ty fz) = w.heap := by
        apply Array.ext_getElem?
        intro k
        rw [Array.getElem?_setIfInBounds]
        by_cases h : b = k
        · subst h; rw [if_pos rfl, if_pos hlt]; exact hb.symm
        · simp [h]
      rw [this]
    simp [storeCells, putCells, e]
  | v :: vs, c, w, off, i, hb, hf, hl, hv => by
    simp only [List.length_cons] at hl
    have hlt := lt_of_heap hb
    have hin : off + i < c.size := by omega
    have hcell : w.cell? ⟨b, off + i, none⟩ = some c[off + i] := by simp [World.cell?, hb, hin]
    have hfz : w.frozen? ⟨b, off + i, none⟩ = false := by
      have := hf (off + i) hin
      simp only [World.frozen?, hb]
      simpa using this
    have hset : w.setCell ⟨b, off + i, none⟩ v = setBlock w b (.cells (c.setIfInBounds (off + i) v) ty fz) := by
      simp only [World.setCell, setBlock]
      congr 1
      apply Array.ext_getElem?
      intro k
      rw [Array.getElem?_modify, Array.getElem?_setIfInBounds]
      have hb' : w.heap[b] = .cells c ty fz := by rw [Array.getElem?_eq_getElem hlt] at hb; simpa using hb
      by_cases h : b = k
      · subst h; simp [hlt, hb']
      · simp [h]
    have ih := run_storeCellsB b ty fz vs (c.setIfInBounds (off + i) v) (setBlock w b (.cells (c.setIfInBounds (off + i) v) ty fz)) off (i + 1) (by rw [setBlock_get _ _ _ _ hlt]; simp) (by intro o ho; exact hf o (by simpa using ho)) (by simp; omega)
      (fun u hu => hv u (List.mem_cons_of_mem _ hu))
    simp only [storeCells, Sem.run_bind, add_mk]
    rw [run_store P w _ v _ (hv v (List.mem_cons_self ..)), hcell, hfz]
    simp only [Bool.false_eq_true, if_false, Result.andThen_ok, hset]
    rw [ih, show off + (i + 1) = off + i + 1 from rfl]
    simp only [setBlock, putCells]
    congr 2
    apply Array.ext_getElem?
    intro k
    simp only [Array.getElem?_setIfInBounds, Array.size_setIfInBounds]
    by_cases h : b = k <;> simp [h]

/-- A value that fills one cell. -/
def AV.one : AV → Bool
  | .junk | .ifb .. | .osl .. | .optr .. | .agg _ | .tuple _ => false
  | _ => true

omit T in
theorem one_ok {w : World} {F : Nat → Prop} {ρ : Nat → Nat} {N : Nat} {x : AV} {v : Value} (h : VR w F ρ N x v) (h1 : x.one = true) : v.oneCell' = true := by
  cases h with
  | fv x v hf => cases hf <;> rfl
  | agg => simp [AV.one] at h1
  | tuple => simp [AV.one] at h1
  | junk => simp [AV.one] at h1
  | ifb => simp [AV.one] at h1
  | _ => rfl

omit T in
theorem one_sound {x : AV} (h : x.one = true) : x.sound = true := by cases x <;> simp_all [AV.one, AV.sound]

omit T in
theorem gather_congr {sz len : Nat} {Bs Bs' : Nat → Nat → List Nat} (h : ∀ i j, i < len → j < sz → Bs i j = Bs' i j) : gather sz len Bs = gather sz len Bs' := by
  simp only [gather, List.flatMap_def]
  congr 1
  apply List.map_congr_left
  intro i hi
  congr 1
  apply List.map_congr_left
  intro j hj
  exact h i j (List.mem_range.1 hi) (List.mem_range.1 hj)

end
end Go.Sl
