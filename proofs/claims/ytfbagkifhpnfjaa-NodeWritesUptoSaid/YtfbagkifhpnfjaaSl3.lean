/- The judgements of the separation logic (operations, regions, code, calls) and the rules of control. No condition. -/
import Derived.Test.YtfbagkifhpnfjaaSl2
namespace Go.Sl
open Go
set_option linter.unusedVariables false
variable {P : Program}

/-- A slot of a frame. -/
def fget : Frame → Nat → Option AV
  | [], _ => none
  | (j, x) :: r, i => bif Nat.beq j i then some x else fget r i

def fdel : Frame → Nat → Frame
  | [], _ => []
  | (j, x) :: r, i => bif Nat.beq j i then fdel r i else (j, x) :: fdel r i

def fset (fr : Frame) (i : Nat) (x : AV) : Frame := (i, x) :: fdel fr i

def fput (fr : Frame) (d : Option Nat) (x : AV) : Frame := match d with | some i => fset fr i x | none => fr

theorem fget_mem {fr : Frame} {i : Nat} {x : AV} (h : fget fr i = some x) : (i, x) ∈ fr := by
  induction fr with
  | nil => cases h
  | cons p r ih =>
    obtain ⟨j, y⟩ := p
    simp only [fget] at h
    cases hb : Nat.beq j i with
    | true => rw [hb] at h; simp at h; rw [Nat.eq_of_beq_eq_true hb, h]; exact List.mem_cons_self ..
    | false => rw [hb] at h; simp at h; exact List.mem_cons_of_mem _ (ih h)

theorem fdel_mem {fr : Frame} {i : Nat} {p : Nat × AV} (h : p ∈ fdel fr i) : p ∈ fr ∧ p.1 ≠ i := by
  induction fr with
  | nil => cases h
  | cons q r ih =>
    obtain ⟨j, y⟩ := q
    simp only [fdel] at h
    cases hb : Nat.beq j i with
    | true => rw [hb] at h; simp at h; exact ⟨List.mem_cons_of_mem _ (ih h).1, (ih h).2⟩
    | false =>
      rw [hb] at h; simp at h
      rcases h with rfl | h
      · exact ⟨List.mem_cons_self .., fun e => by subst e; simp [Nat.beq_refl] at hb⟩
      · exact ⟨List.mem_cons_of_mem _ (ih h).1, (ih h).2⟩

theorem FrR.get {c : Cx} {a : Act} {fr : Frame} (hf : FrR c a fr) {i : Nat} {x : AV} (h : fget fr i = some x) :
    i < a.tmps.size ∧ VR c.w c.F c.ρ c.N x (a.tmps.getD i undef) := hf _ (fget_mem h)

theorem getD_set (a : Array Value) (i j : Nat) (v d : Value) (hi : i < a.size) : (a.setIfInBounds i v).getD j d = if i = j then v else a.getD j d := by
  simp only [Array.getD_eq_getD_getElem?, Array.getElem?_setIfInBounds]
  by_cases h : i = j
  · subst h; simp [hi]
  · simp [h]

theorem FrR.put {c : Cx} {a : Act} {fr : Frame} (hf : FrR c a fr) {d : Option Nat} {x : AV} {v : Value} (hv : VR c.w c.F c.ρ c.N x v)
    (hd : ∀ i, d = some i → i < a.tmps.size) : FrR c (a.put d v) (fput fr d x) := by
  cases d with
  | none => exact hf
  | some i =>
    intro p hp
    have hi := hd i rfl
    simp only [fput, fset] at hp
    simp only [Act.put, Array.size_setIfInBounds]
    rcases List.mem_cons.1 hp with rfl | hp
    · refine ⟨hi, ?_⟩; rw [getD_set _ _ _ _ _ hi, if_pos rfl]; exact hv
    · obtain ⟨hp1, hp2⟩ := fdel_mem hp
      refine ⟨(hf p hp1).1, ?_⟩
      rw [getD_set _ _ _ _ _ hi, if_neg (Ne.symm hp2)]
      exact (hf p hp1).2

theorem FrR.weak {c : Cx} {a : Act} {fr fr' : Frame} (hf : FrR c a fr) (h : ∀ p, p ∈ fr' → p ∈ fr) : FrR c a fr' := fun p hp => hf p (h p hp)

theorem size_put (a : Act) (d : Option Nat) (v : Value) : (a.put d v).tmps.size = a.tmps.size := by
  cases d <;> simp [Act.put]

theorem defers_put (a : Act) (d : Option Nat) (v : Value) : (a.put d v).defers = a.defers := by
  cases d <;> rfl

/-- What a world, a frame and a heap say together. -/
structure Sit (nt : Nat) (c : Cx) (a : Act) (fr : Frame) (H : Heap) : Prop where
  st : St c H
  fr : FrR c a fr
  size : a.tmps.size = nt
  defers : a.defers = []

theorem VR.bool_inv {w : World} {F : Nat → Prop} {ρ : Nat → Nat} {N : Nat} {b : Bool} {v : Value} (h : VR w F ρ N (.fv (.bool b)) v) : v = .bool b := by
  cases h with | fv _ _ h => cases h; rfl

theorem getD_at {a : Array Value} {t : Nat} {v : Value} (hl : t < a.size) (h : a.getD t undef = v) : a[t]? = some v := by
  rw [Array.getD_eq_getD_getElem?] at h
  rw [Array.getElem?_eq_getElem hl] at h ⊢
  simpa using h

theorem Sit.boolAt {nt : Nat} {c : Cx} {a : Act} {fr : Frame} {H : Heap} (hs : Sit nt c a fr H) {t : Nat} {b : Bool} (h : fget fr t = some (.fv (.bool b))) :
    a.tmps[t]? = some (.bool b) := getD_at (hs.fr.get h).1 (hs.fr.get h).2.bool_inv

/-- An operation: whatever follows may count on what it tells. -/
def AOp (P : Program) (nt : Nat) (o : Oper) (N : Nat) (fr : Frame) (H : Heap) (R : Nat → AV → Heap → Prop) : Prop :=
  ∀ c a, c.N = N → Sit nt c a fr H → ∀ next Q, (∀ v c' r H', St c' H' → Step c c' → VR c'.w c'.F c'.ρ c'.N r v → R c'.N r H' → next (a.put o.dst v) c'.w) →
    o.wp P a c.w next Q

/-- A world in which all that is frozen or owned is as it was. -/
def Same (c : Cx) (w : World) : Prop := ∀ b, c.F b ∨ b ∈ c.Own → w.heap[b]? = c.w.heap[b]?

theorem Same.refl (c : Cx) : Same c c.w := fun _ _ => rfl

/-- An operation that leaves the world alone, and tells the same in each world in which what is known is as it was. -/
def ARead (P : Program) (nt : Nat) (o : Oper) (N : Nat) (fr : Frame) (H : Heap) (r : AV) : Prop :=
  ∀ c a, c.N = N → Sit nt c a fr H → ∃ v, (∀ w', Same c w' → (execOp a.eval o).run P w' = .ok (.value v) w') ∧ VR c.w c.F c.ρ c.N r v

theorem AOp.of_read {nt N : Nat} {o : Oper} {fr : Frame} {H : Heap} {r : AV} (h : ARead P nt o N fr H r) :
    AOp P nt o N fr H fun N' r' H' => N' = N ∧ r' = r ∧ H' = H := by
  intro c a hN hs next Q hk
  obtain ⟨v, hrun, hv⟩ := h c a hN hs
  unfold Oper.wp
  rw [hrun c.w (Same.refl c)]
  exact hk v c r H hs.st (Step.refl c) hv ⟨hN, rfl, rfl⟩

theorem AOp.mono {nt N : Nat} {o : Oper} {fr : Frame} {H : Heap} {R R' : Nat → AV → Heap → Prop} (h : AOp P nt o N fr H R)
    (hr : ∀ N' r H', R N' r H' → R' N' r H') : AOp P nt o N fr H R' :=
  fun c a hN hs next Q hk => h c a hN hs next Q fun v c' r H' h1 h2 h3 h4 => hk v c' r H' h1 h2 h3 (hr _ _ _ h4)

theorem Sit.set {nt : Nat} {c c' : Cx} {a : Act} {fr : Frame} {H H' : Heap} (hs : Sit nt c a fr H) (h1 : St c' H') (h2 : Step c c') {d : Option Nat} {r : AV} {v : Value}
    (h3 : VR c'.w c'.F c'.ρ c'.N r v) (hd : ∀ i, d = some i → i < nt) : Sit nt c' (a.put d v) (fput fr d r) H' :=
  ⟨h1, (hs.fr.step hs.st h2).put h3 fun i hi => by rw [hs.size]; exact hd i hi, by rw [size_put]; exact hs.size, by rw [defers_put]; exact hs.defers⟩

theorem AOp.frame {nt N : Nat} {o : Oper} {fr : Frame} {H Hc Hr : Heap} {R : Nat → AV → Heap → Prop} (h : AOp P nt o N fr Hc R) (ht : Take Hc H Hr) :
    AOp P nt o N fr H fun N' r H' => ∃ H1, R N' r H1 ∧ H' = H1 ++ Hr := by
  intro c a hN hs next Q hk
  obtain ⟨Oc, Or, hc, hr, hp⟩ := ht.split hs.st.hr
  have hst0 : St { c with Own := Oc ++ Or } (Hc ++ Hr) := hs.st.perm (hc.app hr) hp
  have hstep0 := Step.reown c (Oc ++ Or) fun b hb => hp.mem_iff.2 hb
  have hstc : St { c with Own := Oc } Hc := by
    have hnd := hst0.nodup
    exact ⟨hc, (List.nodup_append.1 hnd).1, fun b hb => hst0.notF b (List.mem_append_left _ hb), hst0.inF⟩
  refine h { c with Own := Oc } a hN ⟨hstc, hs.fr, hs.size, hs.defers⟩ next Q fun v c' r H1 h1 h2 h3 h4 => ?_
  obtain ⟨hst', hstep'⟩ := frame_back hst0 hc hr rfl h1 h2
  exact hk v { c' with Own := c'.Own ++ Or } r (H1 ++ Hr) hst' (hstep0.trans hstep') h3 ⟨H1, h4, rfl⟩

/-- The operations of a region from one on, in the text's order. -/
def AOps (P : Program) (nt : Nat) (ops : Array Oper) (rest : List Oper) (N : Nat) (fr : Frame) (H : Heap) (K : Nat → Frame → Heap → Prop) : Prop :=
  ∀ i, ops.toList.drop i = rest → ∀ c a, c.N = N → Sit nt c a fr H → ∀ Q : Exit → Act → World → Prop,
    (∀ c' a' fr' H', Sit nt c' a' fr' H' → Step c c' → K c'.N fr' H' → Q .normal a' c'.w) → wpOps P ops Q (List.range' i rest.length) a c.w

theorem AOps.nil {nt N : Nat} {ops : Array Oper} {fr : Frame} {H : Heap} {K : Nat → Frame → Heap → Prop} (h : K N fr H) : AOps P nt ops [] N fr H K := by
  intro i _ c a hN hs Q hk
  exact hk c a fr H hs (Step.refl c) (hN ▸ h)

theorem drop_succ {α : Type} {l : List α} {i : Nat} {x : α} {r : List α} (h : l.drop i = x :: r) : l[i]? = some x ∧ l.drop (i + 1) = r := by
  have h1 : l[i]? = some x := by
    have : (l.drop i)[0]? = some x := by rw [h]; rfl
    rw [List.getElem?_drop] at this
    simpa using this
  refine ⟨h1, ?_⟩
  rw [← List.drop_drop, h]; rfl

/-- An operation that nothing guards. -/
theorem AOps.cons {nt N : Nat} {ops : Array Oper} {o : Oper} {rest : List Oper} {fr : Frame} {H : Heap} {K : Nat → Frame → Heap → Prop} {R : Nat → AV → Heap → Prop}
    (hg : o.guard = none) (hd : ∀ i, o.dst = some i → i < nt) (h : AOp P nt o N fr H R)
    (hk : ∀ N' r H', N ≤ N' → R N' r H' → AOps P nt ops rest N' (fput fr o.dst r) H' K) : AOps P nt ops (o :: rest) N fr H K := by
  intro i hi c a hN hs Q hq
  obtain ⟨ho, hrest⟩ := drop_succ hi
  have ho' : ops[i]? = some o := by rw [← ho]; simp
  simp only [List.length_cons, List.range'_succ, wpOps, ho']
  have hw : Region.wanted o (yielded ops a.tmps) = true := by simp [Region.wanted, hg]
  rw [if_pos hw]
  refine .inl (h c a hN hs _ _ fun v c' r H' h1 h2 h3 h4 => ?_)
  exact hk c'.N r H' (hN ▸ h2.names) h4 (i + 1) hrest c' (a.put o.dst v) rfl (hs.set h1 h2 h3 hd) Q fun c2 a2 fr2 H2 g1 g2 g3 => hq c2 a2 fr2 H2 g1 (h2.trans g2) g3

/-- A guarded one that is wanted. -/
theorem AOps.guardYes {nt N : Nat} {ops : Array Oper} {o oj : Oper} {rest : List Oper} {fr : Frame} {H : Heap} {K : Nat → Frame → Heap → Prop} {R : Nat → AV → Heap → Prop}
    {j t : Nat} {b : Bool} (hg : o.guard = some (j, b)) (hj : ops[j]? = some oj) (ht : oj.dst = some t) (hb : fget fr t = some (.fv (.bool b)))
    (hd : ∀ i, o.dst = some i → i < nt) (h : AOp P nt o N fr H R)
    (hk : ∀ N' r H', N ≤ N' → R N' r H' → AOps P nt ops rest N' (fput fr o.dst r) H' K) : AOps P nt ops (o :: rest) N fr H K := by
  intro i hi c a hN hs Q hq
  obtain ⟨ho, hrest⟩ := drop_succ hi
  have ho' : ops[i]? = some o := by rw [← ho]; simp
  simp only [List.length_cons, List.range'_succ, wpOps, ho']
  have hv : a.tmps[t]? = some (.bool b) := hs.boolAt hb
  have hw : Region.wanted o (yielded ops a.tmps) = true := by
    simp [Region.wanted, hg, yielded, hj, ht, hv]
  rw [if_pos hw]
  refine .inl (h c a hN hs _ _ fun v c' r H' h1 h2 h3 h4 => ?_)
  exact hk c'.N r H' (hN ▸ h2.names) h4 (i + 1) hrest c' (a.put o.dst v) rfl (hs.set h1 h2 h3 hd) Q fun c2 a2 fr2 H2 g1 g2 g3 => hq c2 a2 fr2 H2 g1 (h2.trans g2) g3

/-- A guarded one that is not wanted. -/
theorem AOps.guardNo {nt N : Nat} {ops : Array Oper} {o oj : Oper} {rest : List Oper} {fr : Frame} {H : Heap} {K : Nat → Frame → Heap → Prop}
    {j t : Nat} {b b' : Bool} (hg : o.guard = some (j, b)) (hj : ops[j]? = some oj) (ht : oj.dst = some t) (hb : fget fr t = some (.fv (.bool b'))) (hne : b' ≠ b)
    (hd : ∀ i, o.dst = some i → i < nt)
    (hk : AOps P nt ops rest N (fput fr o.dst .junk) H K) : AOps P nt ops (o :: rest) N fr H K := by
  intro i hi c a hN hs Q hq
  obtain ⟨ho, hrest⟩ := drop_succ hi
  have ho' : ops[i]? = some o := by rw [← ho]; simp
  simp only [List.length_cons, List.range'_succ, wpOps, ho']
  have hv : a.tmps[t]? = some (.bool b') := hs.boolAt hb
  have hw : Region.wanted o (yielded ops a.tmps) = false := by
    simp [Region.wanted, hg, yielded, hj, ht, hv, hne]
  rw [if_neg (by simp [hw])]
  exact hk (i + 1) hrest c (a.put o.dst undef) hN (hs.set hs.st (Step.refl c) (.junk _) hd) Q hq

abbrev Post := Exit → Nat → Frame → Heap → Prop

/-- Code. -/
def AWp (P : Program) (nt : Nat) (cd : Code) (N : Nat) (fr : Frame) (H : Heap) (Q : Post) : Prop :=
  ∀ c a, c.N = N → Sit nt c a fr H → ∀ Q' : Exit → Act → World → Prop,
    (∀ e c' a' fr' H', Sit nt c' a' fr' H' → Step c c' → Q e c'.N fr' H' → Q' e a' c'.w) → cd.wp P Q' a c.w

theorem AWp.mono {nt N : Nat} {cd : Code} {fr : Frame} {H : Heap} {Q Q' : Post} (h : AWp P nt cd N fr H Q) (hq : ∀ e N' fr' H', Q e N' fr' H' → Q' e N' fr' H') :
    AWp P nt cd N fr H Q' :=
  fun c a hN hs Q2 hk => h c a hN hs Q2 fun e c' a' fr' H' h1 h2 h3 => hk e c' a' fr' H' h1 h2 (hq _ _ _ _ h3)

theorem AWp.skip {nt N : Nat} {fr : Frame} {H : Heap} {Q : Post} (h : Q .normal N fr H) : AWp P nt .skip N fr H Q :=
  fun c a hN hs Q' hk => wp_skip (hk .normal c a fr H hs (Step.refl c) (hN ▸ h))
theorem AWp.label {nt N l : Nat} {fr : Frame} {H : Heap} {Q : Post} (h : Q .normal N fr H) : AWp P nt (.label l) N fr H Q :=
  fun c a hN hs Q' hk => wp_label (hk .normal c a fr H hs (Step.refl c) (hN ▸ h))
theorem AWp.exit {nt N id : Nat} {fr : Frame} {H : Heap} {Q : Post} (h : Q (.exit id) N fr H) : AWp P nt (.exit id) N fr H Q :=
  fun c a hN hs Q' hk => wp_exit (hk (.exit id) c a fr H hs (Step.refl c) (hN ▸ h))
theorem AWp.goto {nt N l : Nat} {fr : Frame} {H : Heap} {Q : Post} (h : Q (.goto l) N fr H) : AWp P nt (.goto l) N fr H Q :=
  fun c a hN hs Q' hk => wp_goto (hk (.goto l) c a fr H hs (Step.refl c) (hN ▸ h))
theorem AWp.ret {nt N : Nat} {fr : Frame} {H : Heap} {Q : Post} (h : Q .ret N fr H) : AWp P nt .ret N fr H Q :=
  fun c a hN hs Q' hk => wp_ret (hk .ret c a fr H hs (Step.refl c) (hN ▸ h))

/-- Behind a piece that ends normally the next one; else what was wanted. -/
def Post.then (next : Nat → Frame → Heap → Prop) (Q : Post) : Post
  | .normal, N, fr, H => next N fr H
  | e, N, fr, H => Q e N fr H

theorem AWp.seq {nt N : Nat} {x y : Code} {fr : Frame} {H : Heap} {Q : Post} (h : AWp P nt x N fr H (Post.then (fun N' fr' H' => AWp P nt y N' fr' H' Q) Q)) :
    AWp P nt (.seq x y) N fr H Q := by
  intro c a hN hs Q' hk
  refine wp_seq (h c a hN hs _ fun e c' a' fr' H' h1 h2 h3 => ?_)
  cases e with
  | normal => exact h3 c' a' rfl h1 Q' fun e2 c2 a2 fr2 H2 g1 g2 g3 => hk e2 c2 a2 fr2 H2 g1 (h2.trans g2) g3
  | exit id => exact hk _ c' a' fr' H' h1 h2 h3
  | goto l => exact hk _ c' a' fr' H' h1 h2 h3
  | ret => exact hk _ c' a' fr' H' h1 h2 h3
  | panic ch => exact hk _ c' a' fr' H' h1 h2 h3
  | outgrown => exact hk _ c' a' fr' H' h1 h2 h3

def Post.inBlock (id : Nat) (Q : Post) : Post
  | .exit id', N, fr, H => (id' = id ∧ Q .normal N fr H) ∨ (id' ≠ id ∧ Q (.exit id') N fr H)
  | e, N, fr, H => Q e N fr H

theorem AWp.block {nt N id : Nat} {x : Code} {fr : Frame} {H : Heap} {Q : Post} (h : AWp P nt x N fr H (Post.inBlock id Q)) : AWp P nt (.block id x) N fr H Q := by
  intro c a hN hs Q' hk
  refine wp_block (h c a hN hs _ fun e c' a' fr' H' h1 h2 h3 => ?_)
  cases e with
  | normal => exact hk _ c' a' fr' H' h1 h2 h3
  | exit id' =>
    rcases h3 with ⟨rfl, h3⟩ | ⟨hne, h3⟩
    · simp only [Exit.inBlock, if_true]; exact hk _ c' a' fr' H' h1 h2 h3
    · simp only [Exit.inBlock, hne, if_false]; exact hk _ c' a' fr' H' h1 h2 h3
  | goto l => exact hk _ c' a' fr' H' h1 h2 h3
  | ret => exact hk _ c' a' fr' H' h1 h2 h3
  | panic ch => exact hk _ c' a' fr' H' h1 h2 h3
  | outgrown => exact hk _ c' a' fr' H' h1 h2 h3

theorem Sit.bool {nt : Nat} {c : Cx} {a : Act} {fr : Frame} {H : Heap} (hs : Sit nt c a fr H) {t : Nat} {b : Bool} (h : fget fr t = some (.fv (.bool b))) :
    a.eval (.tmp t) = .bool b := by
  exact (hs.fr.get h).2.bool_inv

theorem AWp.cond {nt N t : Nat} {x y : Code} {b : Bool} {fr : Frame} {H : Heap} {Q : Post} (hb : fget fr t = some (.fv (.bool b)))
    (h1 : b = true → AWp P nt x N fr H Q) (h2 : b = false → AWp P nt y N fr H Q) : AWp P nt (.cond (.tmp t) x y) N fr H Q := by
  intro c a hN hs Q' hk
  exact wp_cond_split (hs.bool hb) (fun e => h1 e c a hN hs Q' hk) (fun e => h2 e c a hN hs Q' hk)

theorem AWp.region {nt N id : Nat} {ops : Array Oper} {fr : Frame} {H : Heap} {Q : Post}
    (h : AOps P nt ops ops.toList N fr H fun N' fr' H' => Q .normal N' fr' H') : AWp P nt (.region id ops false) N fr H Q := by
  intro c a hN hs Q' hk
  refine wp_region ?_
  have := h 0 rfl c a hN hs Q' fun c' a' fr' H' h1 h2 h3 => hk .normal c' a' fr' H' h1 h2 h3
  rw [List.range_eq_range']
  simpa using this

/-- Less is known of the frame and the heap. -/
theorem AWp.weak {nt N : Nat} {cd : Code} {fr fr' : Frame} {H H' Hx : Heap} {Q : Post} (hfr : ∀ p, p ∈ fr' → p ∈ fr) (hH : Take H' H Hx) (h : AWp P nt cd N fr' H' Q) :
    AWp P nt cd N fr H Q := by
  intro c a hN hs Q' hk
  obtain ⟨O1, O2, h1, h2, hp⟩ := hH.split hs.st.hr
  have hnd := hp.nodup_iff.1 hs.st.nodup
  have hstep := Step.reown c O1 fun b hb => hp.mem_iff.2 (List.mem_append_left _ hb)
  refine h { c with Own := O1 } a hN ⟨⟨h1, (List.nodup_append.1 hnd).1, fun b hb => hs.st.notF b (hp.mem_iff.2 (List.mem_append_left _ hb)), hs.st.inF⟩, hs.fr.weak hfr, hs.size, hs.defers⟩ Q'
    fun e c' a' fr2 H2 g1 g2 g3 => hk e c' a' fr2 H2 g1 (hstep.trans g2) g3

theorem wp_loop_rel {Q : Exit → Act → World → Prop} {c : Code} (I : Nat → Act → World → Prop) {a : Act} {w : World} (n : Nat) (h0 : I n a w)
    (round : ∀ n a w, I n a w → c.wp P (Exit.then (fun a' w' => ∃ m, m < n ∧ I m a' w') Q) a w) : (Code.loop c).wp P Q a w := by
  intro b k cs
  have key : ∀ n a w, I n a w → ∃ e a' w', Q e a' w' ∧ Arrives P (lone (b.at a (.code c :: .inLoop c :: k)) cs w) b k cs e a' w' := by
    intro n
    induction n using Nat.strongRecOn with
    | _ n ih =>
      intro a w hI
      obtain ⟨e, a₁, w₁, hq, harr⟩ := round n a w hI b (.inLoop c :: k) cs
      cases e with
      | normal =>
        obtain ⟨m, hlt, hI₁⟩ := hq
        obtain ⟨e₂, a₂, w₂, hq₂, harr₂⟩ := ih m hlt a₁ w₁ hI₁
        exact ⟨e₂, a₂, w₂, hq₂, .of_steps (Steps.trans harr (.one step_inLoop)) harr₂⟩
      | exit id => exact ⟨_, a₁, w₁, hq, .pass (x := .inLoop c) rfl (fun _ _ => .inl (by simp)) harr⟩
      | goto l => exact ⟨_, a₁, w₁, hq, .pass (x := .inLoop c) rfl (fun _ _ => .inl (by simp)) harr⟩
      | ret => exact ⟨_, a₁, w₁, hq, .pass (x := .inLoop c) rfl (fun _ _ => .inl (by simp)) harr⟩
      | panic ch => exact ⟨_, a₁, w₁, hq, .pass (x := .inLoop c) rfl (fun _ _ => .inl (by simp)) harr⟩
      | outgrown => exact ⟨_, a₁, w₁, hq, .pass (x := .inLoop c) rfl (fun _ _ => .inl (by simp)) harr⟩
  obtain ⟨e, a', w', hq, harr⟩ := key n a w h0
  exact ⟨e, a', w', hq, .of_steps (.one step_loop) harr⟩

/-- A loop. x: what changes from round to round; what stands in the slots and the heap hangs on it and on the names. -/
theorem AWp.loop {nt N : Nat} {body : Code} {fr : Frame} {H Hx0 : Heap} {Q : Post} {α : Type} (fs : α → Nat → Frame) (hs : α → Nat → Heap) (good : α → Nat → Prop) (μ : α → Nat) (x0 : α)
    (h0 : good x0 N) (hfr : ∀ p, p ∈ fs x0 N → p ∈ fr) (hH : Take (hs x0 N) H Hx0)
    (round : ∀ x N', N ≤ N' → good x N' → AWp P nt body N' (fs x N') (hs x N')
      (Post.then (fun N2 fr2 H2 => ∃ x2 Hx, good x2 N2 ∧ (∀ p, p ∈ fs x2 N2 → p ∈ fr2) ∧ Take (hs x2 N2) H2 Hx ∧ μ x2 < μ x) Q)) :
    AWp P nt (.loop body) N fr H Q := by
  refine AWp.weak hfr hH ?_
  intro c0 a0 hN hsit Q' hk
  refine wp_loop_rel (fun n a w => ∃ c x, c.w = w ∧ good x c.N ∧ Sit nt c a (fs x c.N) (hs x c.N) ∧ Step c0 c ∧ μ x = n) (μ x0)
    ⟨c0, x0, rfl, hN ▸ h0, hN ▸ hsit, Step.refl c0, rfl⟩ ?_
  rintro n a w ⟨c, x, rfl, hg, hs1, hstep, rfl⟩
  refine round x c.N (hN ▸ hstep.names) hg c a rfl hs1 _ fun e c' a' fr' H' g1 g2 g3 => ?_
  cases e with
  | normal =>
    obtain ⟨x2, Hx, hg2, hf2, ht2, hlt⟩ := g3
    obtain ⟨O1, O2, h1, h2, hp⟩ := ht2.split g1.st.hr
    have hnd := hp.nodup_iff.1 g1.st.nodup
    exact ⟨μ x2, hlt, { c' with Own := O1 }, x2, rfl, hg2,
      ⟨⟨h1, (List.nodup_append.1 hnd).1, fun b hb => g1.st.notF b (hp.mem_iff.2 (List.mem_append_left _ hb)), g1.st.inF⟩, g1.fr.weak hf2, g1.size, g1.defers⟩,
      (hstep.trans g2).trans (Step.reown c' O1 fun b hb => hp.mem_iff.2 (List.mem_append_left _ hb)), rfl⟩
  | exit id => exact hk _ c' a' fr' H' g1 (hstep.trans g2) g3
  | goto l => exact hk _ c' a' fr' H' g1 (hstep.trans g2) g3
  | ret => exact hk _ c' a' fr' H' g1 (hstep.trans g2) g3
  | panic ch => exact hk _ c' a' fr' H' g1 (hstep.trans g2) g3
  | outgrown => exact hk _ c' a' fr' H' g1 (hstep.trans g2) g3

/-- A function that has a body. -/
def Callable (P : Program) (f : FuncId) : Prop := ∃ fn, P.funcs[f]? = some fn ∧ (fn.name == "runtime.NumGoroutine") = false ∧ fn.body.isNone = false

/-- Values of arguments. -/
def VRs (c : Cx) (xs : List AV) (vs : Array Value) : Prop := xs.length = vs.size ∧ ∀ (j : Nat) (x : AV), xs[j]? = some x → VR c.w c.F c.ρ c.N x (vs.getD j undef)

theorem VRs.step {c c' : Cx} {H : Heap} (hst : St c H) (h : Step c c') {xs : List AV} {vs : Array Value} (hv : VRs c xs vs) : VRs c' xs vs :=
  ⟨hv.1, fun j x hx => (hv.2 j x hx).step hst h⟩

/-- A function's contract. -/
def ACall (P : Program) (f : FuncId) (args : List AV) (N : Nat) (H : Heap) (R : Nat → AV → Heap → Prop) : Prop :=
  Callable P f ∧ ∀ c, c.N = N → St c H → ∀ vs, VRs c args vs → ∀ R' : Ending → World → Prop,
    (∀ v c' r H', St c' H' → Step c c' → VR c'.w c'.F c'.ρ c'.N r v → R c'.N r H' → R' (.returned v) c'.w) → Calls P f vs c.w R'

theorem ACall.mono {f : FuncId} {args : List AV} {N : Nat} {H : Heap} {R R' : Nat → AV → Heap → Prop} (h : ACall P f args N H R) (hr : ∀ N' r H', N ≤ N' → R N' r H' → R' N' r H') :
    ACall P f args N H R' :=
  ⟨h.1, fun c hN hs vs hv R2 hk => h.2 c hN hs vs hv R2 fun v c' r H' h1 h2 h3 h4 => hk v c' r H' h1 h2 h3 (hr _ _ _ (hN ▸ h2.names) h4)⟩

theorem ACall.frame {f : FuncId} {args : List AV} {N : Nat} {H Hc Hr : Heap} {R : Nat → AV → Heap → Prop} (h : ACall P f args N Hc R) (ht : Take Hc H Hr) :
    ACall P f args N H fun N' r H' => ∃ H1, R N' r H1 ∧ H' = H1 ++ Hr := by
  refine ⟨h.1, fun c hN hst vs hv R' hk => ?_⟩
  obtain ⟨Oc, Or, hc, hr, hp⟩ := ht.split hst.hr
  have hst0 : St { c with Own := Oc ++ Or } (Hc ++ Hr) := hst.perm (hc.app hr) hp
  have hstep0 := Step.reown c (Oc ++ Or) fun b hb => hp.mem_iff.2 hb
  have hstc : St { c with Own := Oc } Hc := by
    have hnd := hst0.nodup
    exact ⟨hc, (List.nodup_append.1 hnd).1, fun b hb => hst0.notF b (List.mem_append_left _ hb), hst0.inF⟩
  refine h.2 { c with Own := Oc } hN hstc vs hv R' fun v c' r H1 h1 h2 h3 h4 => ?_
  obtain ⟨hst', hstep'⟩ := frame_back hst0 hc hr rfl h1 h2
  exact hk v { c' with Own := c'.Own ++ Or } r (H1 ++ Hr) hst' (hstep0.trans hstep') h3 ⟨H1, h4, rfl⟩

end Go.Sl
