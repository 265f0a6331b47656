/- How readings last from world to world, and what a step of a program may do to the world. No condition. -/
import Derived.Test.YtfbagkifhpnfjaaSl1
import Derived.Laws.World
import Derived.Laws.AppendOwn
namespace Go.Sl
open Go

theorem add_add (a : Addr) (m n : Nat) : (a.add m).add n = a.add (m + n) := by
  unfold Addr.add
  by_cases hm : m = 0 <;> by_cases hn : n = 0 <;> simp [hm, hn] <;> omega

theorem add_block (a : Addr) (m : Nat) : (a.add m).block = a.block := by
  unfold Addr.add; split <;> rfl

theorem add_mk (b o m : Nat) : (⟨b, o, none⟩ : Addr).add m = ⟨b, o + m, none⟩ := by
  unfold Addr.add; split
  · subst_vars; rfl
  · rfl

theorem FR.mono {w w' : World} {F F' : Nat → Prop} (hF : ∀ b, F b → F' b ∧ w'.heap[b]? = w.heap[b]?) {x : FV} {v : Value}
    (h : FR w F x v) : FR w' F' x v := by
  induction h with
  | int => exact .int ..
  | bool => exact .bool ..
  | str => exact .str ..
  | slnil => exact .slnil ..
  | sl0 => exact .sl0 ..
  | sl sz len g a c vs hc hsz hcell hval ih =>
    refine .sl sz len g a c vs hc hsz (fun i j x hi hx => ?_) ih
    obtain ⟨hf, hcl⟩ := hcell i j x hi hx
    refine ⟨(hF _ hf).1, ?_⟩
    rw [World.cell?_of_block (w := w)]
    · exact hcl
    · simp only [add_block]; exact (hF _ hf).2
  | fptr cs a vs hcell hval ih =>
    refine .fptr cs a vs (fun j x hx => ?_) ih
    obtain ⟨hf, hcl⟩ := hcell j x hx
    refine ⟨(hF _ hf).1, ?_⟩
    rw [World.cell?_of_block (w := w)]
    · exact hcl
    · simp only [add_block]; exact (hF _ hf).2
  | fn => exact .fn ..
  | nilfn => exact .nilfn
  | nilptr => exact .nilptr
  | nilmap => exact .nilmap
  | nilif => exact .nilif
  | iface1 t x v _ ih => exact .iface1 t x v ih
  | ifaceA t cs vs hl _ ih => exact .ifaceA t cs vs hl ih

theorem VR.mono {w w' : World} {F F' : Nat → Prop} {ρ ρ' : Nat → Nat} {N N' : Nat} (hF : ∀ b, F b → F' b ∧ w'.heap[b]? = w.heap[b]?)
    (hN : N ≤ N') (hρ : ∀ n, n < N → ρ' n = ρ n) {x : AV} {v : Value} (h : VR w F ρ N x v) : VR w' F' ρ' N' x v := by
  induction h with
  | fv x v h => exact .fv x v (h.mono hF)
  | ptr n sz i j h => rw [← hρ n h]; exact .ptr n sz i j (by omega)
  | sl n sz i len cap a c h hl hc ha => exact .sl n sz i len cap a c (by omega) hl hc (fun h0 => by rw [hρ n h]; exact ha h0)
  | map n h => rw [← hρ n h]; exact .map n (by omega)
  | ref n h => rw [← hρ n h]; exact .ref n (by omega)
  | fn f first captured fs cs hf hc _ _ ih1 ih2 => exact .fn f first captured fs cs hf hc ih1 ih2
  | iface t x v _ ih => exact .iface t x v ih
  | agg cs vs hl _ ih => exact .agg cs vs hl ih
  | tuple cs vs hl _ ih => exact .tuple cs vs hl ih
  | rowNil n h => exact .rowNil n (by omega)
  | row n len h => rw [← hρ n (by omega), ← hρ (n + 1) h]; exact .row n len (by omega)
  | ifb c x v _ hn ih => exact .ifb c x v ih hn
  | junk v => exact .junk v

theorem mem_gather {sz len : Nat} {Bs : Nat → Nat → List Nat} {b : Nat} : b ∈ gather sz len Bs ↔ ∃ i j, i < len ∧ j < sz ∧ b ∈ Bs i j := by
  simp only [gather, List.mem_flatMap, List.mem_range]
  constructor
  · rintro ⟨i, hi, j, hj, hb⟩; exact ⟨i, j, hi, hj, hb⟩
  · rintro ⟨i, j, hi, hj, hb⟩; exact ⟨i, hi, j, hj, hb⟩

theorem len_of_get {α : Type} {l : List α} {j : Nat} {x : α} (h : l[j]? = some x) : j < l.length := by
  rcases Nat.lt_or_ge j l.length with h' | h'
  · exact h'
  · simp [List.getElem?_eq_none h'] at h

theorem CR.mono {w w' : World} {F F' : Nat → Prop} {ρ ρ' : Nat → Nat} {N N' : Nat} (hF : ∀ b, F b → F' b ∧ w'.heap[b]? = w.heap[b]?)
    (hN : N ≤ N') (hρ : ∀ n, n < N → ρ' n = ρ n) {x : AV} {v : Value} {B : List Nat} (h : CR w F ρ N x v B)
    (hB : ∀ b, b ∈ B → w'.heap[b]? = w.heap[b]?) : CR w' F' ρ' N' x v B := by
  induction h with
  | val x v h => exact .val x v (h.mono hF hN hρ)
  | osl sz len g b k c ty fz vs Bs hb hfree hlen hsize hsz hcell hval ih =>
    refine .osl sz len g b k c ty fz vs Bs (by rw [hB b (by simp)]; exact hb) hfree hlen hsize hsz hcell (fun i j x hi hx => ih i j x hi hx ?_)
    intro b' hb'
    refine hB b' (List.mem_cons_of_mem _ (mem_gather.2 ⟨i, j, hi, ?_, hb'⟩))
    have := len_of_get hx; rw [hsz i hi] at this; exact this
  | optr cs b c ty fz vs Bs hb hfree hsize hcell hval ih =>
    refine .optr cs b c ty fz vs Bs (by rw [hB b (by simp)]; exact hb) hfree hsize hcell (fun j x hx => ih j x hx ?_)
    intro b' hb'
    refine hB b' (List.mem_cons_of_mem _ (List.mem_flatMap.2 ⟨j, List.mem_range.2 (len_of_get hx), hb'⟩))

theorem OR.mono {w w' : World} {F F' : Nat → Prop} {ρ ρ' : Nat → Nat} {N N' : Nat} (hF : ∀ b, F b → F' b ∧ w'.heap[b]? = w.heap[b]?)
    (hN : N ≤ N') (hρ : ∀ n, n < N → ρ' n = ρ n) {n : Nat} {o : AObj} {B : List Nat} (h : OR w F ρ N n o B)
    (hB : ∀ b, b ∈ B → w'.heap[b]? = w.heap[b]?) : OR w' F' ρ' N' n o B := by
  cases h with
  | arr sz len g tight c ty fz vs Bs hn hb hfree hsize ht hsz hcell hval =>
    rw [← hρ n hn]
    refine .arr n sz len g tight c ty fz vs Bs (by omega) (by rw [hρ n hn, hB _ (by simp)]; exact hb) hfree hsize ht hsz hcell (fun i j x hi hx => (hval i j x hi hx).mono hF hN hρ ?_)
    intro b' hb'
    refine hB b' (List.mem_cons_of_mem _ (mem_gather.2 ⟨i, j, hi, ?_, hb'⟩))
    have := len_of_get hx; rw [hsz i hi] at this; exact this
  | map es ents clock hn hb hl hborn hnd hval =>
    rw [← hρ n hn]
    exact .map n es ents clock (by omega) (by rw [hρ n hn, hB _ (by simp)]; exact hb) hl hborn hnd
      (fun j x e hx he => ⟨(hval j x e hx he).1.mono hF hN hρ, (hval j x e hx he).2.mono hF hN hρ⟩)
  | rowNil sz h => exact .rowNil n sz (by omega)
  | row sz els c ty fz vs Bs h hb hfree hlen hsize hmax hsz hcell hval =>
    rw [← hρ n (by omega)]
    refine .row n sz els c ty fz vs Bs (by omega) (by rw [hρ n (by omega), hB _ (by simp)]; exact hb) hfree (by rw [hρ _ h]; exact hlen) (by rw [hρ _ h]; exact hsize) (by rw [hρ _ h]; exact hmax) hsz hcell
      (fun i j l x hi hx => (hval i j l x hi hx).mono hF hN hρ ?_)
    intro b' hb'
    refine hB b' (List.mem_cons_of_mem _ (mem_gather.2 ⟨i, j, len_of_get hi, ?_, hb'⟩))
    have := len_of_get hx; rw [hsz i l hi] at this; exact this
  | strIter s pos hn hb => rw [← hρ n hn]; exact .strIter n s pos (by omega) (by rw [hρ n hn, hB _ (by simp)]; exact hb)
  | mapIter m since seen stepped hn hm hb =>
    rw [← hρ n hn]; exact .mapIter n m since seen stepped (by omega) (by omega) (by rw [hρ n hn, hρ m hm, hB _ (by simp)]; exact hb)

theorem HR.mono {w w' : World} {F F' : Nat → Prop} {ρ ρ' : Nat → Nat} {N N' : Nat} (hF : ∀ b, F b → F' b ∧ w'.heap[b]? = w.heap[b]?)
    (hN : N ≤ N') (hρ : ∀ n, n < N → ρ' n = ρ n) {H : Heap} {Own : List Nat} (h : HR w F ρ N H Own)
    (hB : ∀ b, b ∈ Own → w'.heap[b]? = w.heap[b]?) : HR w' F' ρ' N' H Own := by
  induction h with
  | nil => exact .nil
  | cons n o H B Own ho hH ih =>
    exact .cons n o H B Own (ho.mono hF hN hρ fun b hb => hB b (List.mem_append_left _ hb)) (ih fun b hb => hB b (List.mem_append_right _ hb))

theorem lt_of_heap {w : World} {b : Nat} {o : Obj} (h : w.heap[b]? = some o) : b < w.heap.size := by
  rcases Nat.lt_or_ge b w.heap.size with h' | h'
  · exact h'
  · simp [Array.getElem?_eq_none h'] at h

theorem CR.lt {w : World} {F : Nat → Prop} {ρ : Nat → Nat} {N : Nat} {x : AV} {v : Value} {B : List Nat} (h : CR w F ρ N x v B) :
    ∀ b, b ∈ B → b < w.heap.size := by
  induction h with
  | val => intro b hb; cases hb
  | osl sz len g b k c ty fz vs Bs hb hfree hlen hsize hsz hcell hval ih =>
    intro b' hb'
    rcases List.mem_cons.1 hb' with rfl | hb'
    · exact lt_of_heap hb
    · obtain ⟨i, j, hi, hj, hm⟩ := mem_gather.1 hb'
      have hj' : j < (g i).length := by rw [hsz i hi]; exact hj
      exact ih i j (g i)[j] hi (List.getElem?_eq_getElem hj') b' hm
  | optr cs b c ty fz vs Bs hb hfree hsize hcell hval ih =>
    intro b' hb'
    rcases List.mem_cons.1 hb' with rfl | hb'
    · exact lt_of_heap hb
    · obtain ⟨j, hj, hm⟩ := List.mem_flatMap.1 hb'
      have hj' := List.mem_range.1 hj
      exact ih j cs[j] (List.getElem?_eq_getElem hj') b' hm

theorem OR.lt {w : World} {F : Nat → Prop} {ρ : Nat → Nat} {N : Nat} {n : Nat} {o : AObj} {B : List Nat} (h : OR w F ρ N n o B) :
    ∀ b, b ∈ B → b < w.heap.size := by
  cases h with
  | arr sz len g tight c ty fz vs Bs hn hb hfree hsize ht hsz hcell hval =>
    intro b' hb'
    rcases List.mem_cons.1 hb' with rfl | hb'
    · exact lt_of_heap hb
    · obtain ⟨i, j, hi, hj, hm⟩ := mem_gather.1 hb'
      have hj' : j < (g i).length := by rw [hsz i hi]; exact hj
      exact (hval i j (g i)[j] hi (List.getElem?_eq_getElem hj')).lt b' hm
  | map es ents clock hn hb => intro b' hb'; rcases List.mem_singleton.1 hb' with rfl; exact lt_of_heap hb
  | rowNil => intro b' hb'; cases hb'
  | row sz els c ty fz vs Bs h hb hfree hlen hsize hmax hsz hcell hval =>
    intro b' hb'
    rcases List.mem_cons.1 hb' with rfl | hb'
    · exact lt_of_heap hb
    · obtain ⟨i, j, hi, hj, hm⟩ := mem_gather.1 hb'
      have hl := hsz i _ (List.getElem?_eq_getElem hi)
      exact (hval i j _ _ (List.getElem?_eq_getElem hi) (List.getElem?_eq_getElem (by rw [hl]; exact hj))).lt b' hm
  | strIter s pos hn hb => intro b' hb'; rcases List.mem_singleton.1 hb' with rfl; exact lt_of_heap hb
  | mapIter m since seen stepped hn hm hb => intro b' hb'; rcases List.mem_singleton.1 hb' with rfl; exact lt_of_heap hb

def AObj.isRow : AObj → Bool
  | .row .. => true
  | _ => false

theorem OR.mem {w : World} {F : Nat → Prop} {ρ : Nat → Nat} {N : Nat} {n : Nat} {o : AObj} {B : List Nat} (h : OR w F ρ N n o B) (ho : o.isRow = false) : ρ n ∈ B ∧ n < N := by
  cases h <;> first | exact ⟨by simp, by assumption⟩ | cases ho

theorem HR.lt {w : World} {F : Nat → Prop} {ρ : Nat → Nat} {N : Nat} {H : Heap} {Own : List Nat} (h : HR w F ρ N H Own) :
    ∀ b, b ∈ Own → b < w.heap.size := by
  induction h with
  | nil => intro b hb; cases hb
  | cons n o H B Own ho hH ih =>
    intro b hb
    rcases List.mem_append.1 hb with hb | hb
    · exact ho.lt b hb
    · exact ih b hb

/-- What a proof knows beside the heap: the world, the frozen blocks, the names. -/
structure Cx where
  w : World
  F : Nat → Prop
  ρ : Nat → Nat
  N : Nat
  Own : List Nat

structure St (c : Cx) (H : Heap) : Prop where
  hr : HR c.w c.F c.ρ c.N H c.Own
  nodup : c.Own.Nodup
  notF : ∀ b, b ∈ c.Own → ¬ c.F b
  inF : ∀ b, c.F b → b < c.w.heap.size

structure Step (c c' : Cx) : Prop where
  os : c'.w.os = c.w.os
  tape : c'.w.tape = c.w.tape
  output : c'.w.output = c.w.output
  size : c.w.heap.size ≤ c'.w.heap.size
  keep : ∀ b, b < c.w.heap.size → b ∉ c.Own → c'.w.heap[b]? = c.w.heap[b]?
  grow : ∀ b, c.F b → c'.F b
  newF : ∀ b, c'.F b → c.F b ∨ b ∈ c.Own ∨ c.w.heap.size ≤ b
  own : ∀ b, b ∈ c'.Own → b ∈ c.Own ∨ c.w.heap.size ≤ b
  names : c.N ≤ c'.N
  same : ∀ n, n < c.N → c'.ρ n = c.ρ n

theorem Step.refl (c : Cx) : Step c c :=
  ⟨rfl, rfl, rfl, Nat.le_refl _, fun _ _ _ => rfl, fun _ h => h, fun _ h => .inl h, fun _ h => .inl h, Nat.le_refl _, fun _ _ => rfl⟩

theorem Step.trans {a b c : Cx} (h : Step a b) (k : Step b c) : Step a c where
  os := k.os.trans h.os
  tape := k.tape.trans h.tape
  output := k.output.trans h.output
  size := Nat.le_trans h.size k.size
  keep := fun x hx hn => (k.keep x (Nat.lt_of_lt_of_le hx h.size) fun hm => (h.own x hm).elim hn (fun h' => by omega)).trans (h.keep x hx hn)
  grow := fun x hx => k.grow x (h.grow x hx)
  newF := fun x hx => by
    rcases k.newF x hx with h1 | h1 | h1
    · exact h.newF x h1
    · exact .inr (h.own x h1)
    · exact .inr (.inr (Nat.le_trans h.size h1))
  own := fun x hx => by
    rcases k.own x hx with h1 | h1
    · exact h.own x h1
    · exact .inr (Nat.le_trans h.size h1)
  names := Nat.le_trans h.names k.names
  same := fun n hn => (k.same n (Nat.lt_of_lt_of_le hn h.names)).trans (h.same n hn)

theorem Step.frozen {c c' : Cx} {H : Heap} (hst : St c H) (h : Step c c') : ∀ b, c.F b → c'.F b ∧ c'.w.heap[b]? = c.w.heap[b]? :=
  fun b hb => ⟨h.grow b hb, h.keep b (hst.inF b hb) fun hm => hst.notF b hm hb⟩

theorem VR.step {c c' : Cx} {H : Heap} (hst : St c H) (h : Step c c') {x : AV} {v : Value} (hv : VR c.w c.F c.ρ c.N x v) : VR c'.w c'.F c'.ρ c'.N x v :=
  hv.mono (h.frozen hst) h.names h.same

/-- The frame: what is known of a function's slots. -/
def FrR (c : Cx) (a : Act) (fr : Frame) : Prop := ∀ p, p ∈ fr → p.1 < a.tmps.size ∧ VR c.w c.F c.ρ c.N p.2 (a.tmps.getD p.1 undef)

theorem FrR.step {c c' : Cx} {H : Heap} (hst : St c H) (h : Step c c') {a : Act} {fr : Frame} (hf : FrR c a fr) : FrR c' a fr :=
  fun p hp => ⟨(hf p hp).1, (hf p hp).2.step hst h⟩

/-- An object is taken out of a heap. -/
inductive Has (n : Nat) (o : AObj) : Heap → Heap → Prop
  | head (H : Heap) : Has n o ((n, o) :: H) H
  | tail (x : Nat × AObj) (H H' : Heap) (h : Has n o H H') : Has n o (x :: H) (x :: H')

theorem Has.split {w : World} {F : Nat → Prop} {ρ : Nat → Nat} {N : Nat} {n : Nat} {o : AObj} {H H' : Heap} (h : Has n o H H') :
    ∀ {Own : List Nat}, HR w F ρ N H Own → ∃ B Own', OR w F ρ N n o B ∧ HR w F ρ N H' Own' ∧ Own.Perm (B ++ Own') := by
  induction h with
  | head H =>
    intro Own hr
    cases hr with
    | cons _ _ _ B Own' ho hH => exact ⟨B, Own', ho, hH, .refl _⟩
  | tail x H H' _ ih =>
    intro Own hr
    cases hr with
    | cons n' o' _ B Own' ho hH =>
      obtain ⟨B', Own'', ho', hH', hp⟩ := ih hH
      refine ⟨B', B ++ Own'', ho', .cons n' o' H' B Own'' ho hH', ?_⟩
      refine (List.Perm.append_left B hp).trans ?_
      rw [← List.append_assoc, ← List.append_assoc]
      exact List.Perm.append_right _ List.perm_append_comm

theorem HR.app {w : World} {F : Nat → Prop} {ρ : Nat → Nat} {N : Nat} {H1 H2 : Heap} {O1 O2 : List Nat} (h1 : HR w F ρ N H1 O1) (h2 : HR w F ρ N H2 O2) :
    HR w F ρ N (H1 ++ H2) (O1 ++ O2) := by
  induction h1 with
  | nil => exact h2
  | cons n o H B Own ho hH ih => rw [List.append_assoc]; exact .cons n o (H ++ H2) B (Own ++ O2) ho ih

theorem HR.unapp {w : World} {F : Nat → Prop} {ρ : Nat → Nat} {N : Nat} {H2 : Heap} : ∀ {H1 : Heap} {Own : List Nat}, HR w F ρ N (H1 ++ H2) Own →
    ∃ O1 O2, HR w F ρ N H1 O1 ∧ HR w F ρ N H2 O2 ∧ Own = O1 ++ O2
  | [], Own, h => ⟨[], Own, .nil, h, rfl⟩
  | (n, o) :: H1, _, h => by
    cases h with
    | cons _ _ _ B Own ho hH =>
      obtain ⟨O1, O2, h1, h2, e⟩ := HR.unapp hH
      exact ⟨B ++ O1, O2, .cons n o H1 B O1 ho h1, h2, by rw [e, List.append_assoc]⟩

/-- Several objects are taken out of a heap. -/
inductive Take : Heap → Heap → Heap → Prop
  | nil (H : Heap) : Take [] H H
  | cons (n : Nat) (o : AObj) (L H H1 H2 : Heap) (h : Has n o H H1) (t : Take L H1 H2) : Take ((n, o) :: L) H H2

theorem Take.split {w : World} {F : Nat → Prop} {ρ : Nat → Nat} {N : Nat} {L H H' : Heap} (h : Take L H H') :
    ∀ {Own : List Nat}, HR w F ρ N H Own → ∃ O1 O2, HR w F ρ N L O1 ∧ HR w F ρ N H' O2 ∧ Own.Perm (O1 ++ O2) := by
  induction h with
  | nil H => intro Own hr; exact ⟨[], Own, .nil, hr, .refl _⟩
  | cons n o L H H1 H2 h _ ih =>
    intro Own hr
    obtain ⟨B, Own', ho, hH, hp⟩ := h.split hr
    obtain ⟨O1, O2, hL, hH2, hp2⟩ := ih hH
    exact ⟨B ++ O1, O2, .cons n o L B O1 ho hL, hH2, hp.trans (by rw [List.append_assoc]; exact List.Perm.append_left B hp2)⟩

theorem St.perm {c : Cx} {H H' : Heap} {Own : List Nat} (h : St c H) (hr : HR c.w c.F c.ρ c.N H' Own) (hp : c.Own.Perm Own) : St { c with Own := Own } H' :=
  ⟨hr, hp.nodup_iff.1 h.nodup, fun b hb => h.notF b (hp.mem_iff.2 hb), h.inF⟩

theorem Step.reown (c : Cx) (Own : List Nat) (hp : ∀ b, b ∈ Own → b ∈ c.Own) : Step c { c with Own := Own } :=
  ⟨rfl, rfl, rfl, Nat.le_refl _, fun _ _ _ => rfl, fun _ h => h, fun _ h => .inl h, fun b hb => .inl (hp b hb), Nat.le_refl _, fun _ _ => rfl⟩

/-- THE FRAME RULE: what was set aside stays as it was. -/
theorem frame_back {c c2 : Cx} {Hc Hr H' : Heap} {Oc Or : List Nat} (hst : St c (Hc ++ Hr)) (hc : HR c.w c.F c.ρ c.N Hc Oc) (hr : HR c.w c.F c.ρ c.N Hr Or)
    (ho : c.Own = Oc ++ Or) (h2 : St c2 H') (hs : Step { c with Own := Oc } c2) :
    St { c2 with Own := c2.Own ++ Or } (H' ++ Hr) ∧ Step c { c2 with Own := c2.Own ++ Or } := by
  have hnd := hst.nodup
  rw [ho, List.nodup_append] at hnd
  obtain ⟨_, hndr, hdis⟩ := hnd
  have hOr : ∀ b, b ∈ Or → b ∉ Oc := fun b hb hb' => hdis b hb' b hb rfl
  have hltr : ∀ b, b ∈ Or → b < c.w.heap.size := hr.lt
  have hkeepr : ∀ b, b ∈ Or → c2.w.heap[b]? = c.w.heap[b]? := fun b hb => hs.keep b (hltr b hb) (hOr b hb)
  have hF : ∀ b, c.F b → c2.F b ∧ c2.w.heap[b]? = c.w.heap[b]? := fun b hb =>
    ⟨hs.grow b hb, hs.keep b (hst.inF b hb) fun hm => hst.notF b (by rw [ho]; exact List.mem_append_left _ hm) hb⟩
  refine ⟨⟨h2.hr.app (hr.mono hF hs.names hs.same hkeepr), ?_, ?_, h2.inF⟩, ?_⟩
  · show (c2.Own ++ Or).Nodup
    rw [List.nodup_append]
    refine ⟨h2.nodup, hndr, fun x hx y hy e => ?_⟩
    subst e
    rcases hs.own x hx with h1 | h1
    · exact hOr x hy h1
    · exact absurd (hltr x hy) (by simpa using h1)
  · intro b hb hFb
    rcases List.mem_append.1 hb with hb | hb
    · exact h2.notF b hb hFb
    · rcases hs.newF b hFb with h1 | h1 | h1
      · exact hst.notF b (by rw [ho]; exact List.mem_append_right _ hb) h1
      · exact hOr b hb h1
      · exact absurd (hltr b hb) (by simpa using h1)
  · refine ⟨hs.os, hs.tape, hs.output, hs.size, fun b hb hn => hs.keep b hb fun hm => hn (by rw [ho]; exact List.mem_append_left _ hm), hs.grow, fun b hb => ?_, fun b hb => ?_, hs.names, hs.same⟩
    · rcases hs.newF b hb with h1 | h1 | h1
      · exact .inl h1
      · exact .inr (.inl (by rw [ho]; exact List.mem_append_left _ h1))
      · exact .inr (.inr h1)
    · rcases List.mem_append.1 hb with hb | hb
      · rcases hs.own b hb with h1 | h1
        · exact .inl (by rw [ho]; exact List.mem_append_left _ h1)
        · exact .inr h1
      · exact .inl (by rw [ho]; exact List.mem_append_right _ hb)

end Go.Sl
