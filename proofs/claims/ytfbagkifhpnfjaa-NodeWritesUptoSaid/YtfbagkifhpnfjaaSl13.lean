/- Regions whose order is left open. No condition. -/
import Derived.Test.YtfbagkifhpnfjaaSl12
import Derived.OrdersHeld
namespace Go.Sl
open Go
set_option linter.unusedVariables false
variable {P : Program} {nt N N0 : Nat} {ops : Array Oper} {o : Oper} {fr fr0 : Frame} {H Hr : Heap} {K : Nat → Frame → Heap → Prop} {fuel : Nat} {listed : Array Bool}

/-- c0: what was known when the region began, of the objects that nothing in it writes; c: what is known now, of the other ones. -/
structure Duo (c0 c : Cx) : Prop where
  apart : ∀ b, b ∈ c0.Own → b ∉ c.Own
  notF : ∀ b, b ∈ c0.Own → ¬ c.F b
  sub : ∀ b, c0.F b → c.F b
  size : c0.w.heap.size ≤ c.w.heap.size
  names : c0.N ≤ c.N
  rho : ∀ n, n < c0.N → c.ρ n = c0.ρ n
  same : Same c0 c.w

theorem Duo.step {c0 c c' : Cx} {H0 H : Heap} (h0 : St c0 H0) (hst : St c H) (h : Duo c0 c) (hs : Step c c') : Duo c0 c' := by
  have hlt : ∀ b, c0.F b ∨ b ∈ c0.Own → b < c.w.heap.size := fun b hb => by
    rcases hb with hb | hb
    · exact hst.inF b (h.sub b hb)
    · exact Nat.lt_of_lt_of_le (h0.hr.lt b hb) h.size
  refine ⟨fun b hb hb' => ?_, fun b hb hF => ?_, fun b hb => hs.grow b (h.sub b hb), Nat.le_trans h.size hs.size, Nat.le_trans h.names hs.names, fun n hn => ?_, fun b hb => ?_⟩
  · rcases hs.own b hb' with h1 | h1
    · exact h.apart b hb h1
    · exact absurd (hlt b (.inr hb)) (by omega)
  · rcases hs.newF b hF with h1 | h1 | h1
    · exact h.notF b hb h1
    · exact h.apart b hb h1
    · exact absurd (hlt b (.inr hb)) (by omega)
  · rw [hs.same n (Nat.lt_of_lt_of_le hn h.names), h.rho n hn]
  · rw [hs.keep b (hlt b hb) ?_]
    · exact h.same b hb
    · intro hm
      rcases hb with hb | hb
      · exact hst.notF b hm (h.sub b hb)
      · exact h.apart b hb hm

theorem Duo.vr {c0 c : Cx} (h : Duo c0 c) {x : AV} {v : Value} (hv : VR c0.w c0.F c0.ρ c0.N x v) : VR c.w c.F c.ρ c.N x v :=
  hv.mono (fun b hb => ⟨h.sub b hb, h.same b (.inl hb)⟩) h.names h.rho

/-- Whatever order is picked from here on. -/
def AAny (P : Program) (nt : Nat) (ops : Array Oper) (Hr : Heap) (N0 fuel : Nat) (listed : Array Bool) (fr0 : Frame) (N : Nat) (fr : Frame) (H : Heap) (K : Nat → Frame → Heap → Prop) : Prop :=
  ∀ c0 c a, c0.N = N0 → Sit nt c0 a fr0 Hr → c.N = N → Sit nt c a fr H → Duo c0 c → ∀ Q : Exit → Act → World → Prop, (∀ ch a w, ¬ Q (.panic ch) a w) →
    (∀ c' a' fr' H', Sit nt c' a' fr' H' → Step c c' → Duo c0 c' → K c'.N fr' H' → Q .normal a' c'.w) → wpAnyH P .any ops Q (Same c0) fuel listed a c.w

theorem AAny.done (hr : Region.ready .any ops listed = []) (h : K N fr H) : AAny P nt ops Hr N0 fuel listed fr0 N fr H K := by
  intro c0 c a hN0 hs0 hN hs hduo Q hp hk
  exact wpAnyH_done hr (hk c a fr H hs (Step.refl c) hduo (hN ▸ h)) _

/-- A reader comes first. -/
theorem AAny.take {d : Nat} {r : AV} (i : Nat) (h : ARead P nt o N0 fr0 Hr r) (hi : ops[i]? = some o) (hsel : Region.noSelect ops = true) (hf : Region.free .any ops listed i = true) (hr : (Region.ready .any ops listed).contains i = true)
    (hg : o.guard = none) (hd : o.dst = some d) (hn : Nat.ble (d + 1) nt = true) (k : AAny P nt ops Hr N0 fuel (listed.setIfInBounds i true) (fset fr0 d r) N (fset fr d r) H K) : AAny P nt ops Hr N0 (fuel + 1) listed fr0 N fr H K := by
  intro c0 c a hN0 hs0 hN hs hduo Q hp hk
  obtain ⟨v, hrun, hv⟩ := h c0 a hN0 hs0
  have hdn : ∀ k, o.dst = some k → k < nt := fun k hk => by rw [hd] at hk; cases hk; exact Nat.le_of_ble_eq_true hn
  refine wpAnyH_take (v := v) hi hsel hf hr (fun ch a w hq => absurd hq (hp ch _ w)) (.inl ⟨by simp [Region.wanted, hg], fun w hw => hrun w hw⟩) hduo.same ?_
  have e1 := hs0.set hs0.st (Step.refl c0) hv hdn
  have e2 := hs.set hs.st (Step.refl c) (hduo.vr hv) hdn
  rw [hd] at e1 e2 ⊢
  exact k c0 c _ hN0 e1 hN e2 hduo Q hp hk

/-- A guarded reader comes first. -/
theorem AAny.gtake {d j t : Nat} {oj : Oper} {want G : Bool} {x r : AV} {fr' : Frame} (i : Nat) (hg : o.guard = some (j, want)) (hj : ops[j]? = some oj) (ht : oj.dst = some t) (hx : fget fr0 t = some x) (hG : guardOf want x = some G)
    (hs : Sub G fr0 fr') (h : G = true → ARead P nt o N0 fr' Hr r) (hi : ops[i]? = some o) (hsel : Region.noSelect ops = true) (hf : Region.free .any ops listed i = true) (hr : (Region.ready .any ops listed).contains i = true)
    (hd : o.dst = some d) (hn : Nat.ble (d + 1) nt = true) (k : AAny P nt ops Hr N0 fuel (listed.setIfInBounds i true) (fset fr0 d (.ifb G r)) N (fset fr d (.ifb G r)) H K) : AAny P nt ops Hr N0 (fuel + 1) listed fr0 N fr H K := by
  intro c0 c a hN0 hs0 hN hsit hduo Q hp hk
  have hdn : ∀ k, o.dst = some k → k < nt := fun k hk => by rw [hd] at hk; cases hk; exact Nat.le_of_ble_eq_true hn
  have hget := hs0.fr.get hx
  have hgo := guard_ok hG hget.2
  have hw := Region.wanted_iff (ops := ops) (a := a) hg hj ht hget.1 rfl
  have key : ∃ v, YieldsIf P ops (Same c0) o v a ∧ VR c0.w c0.F c0.ρ c0.N (.ifb G r) v := by
    cases hGv : G with
    | true =>
      obtain ⟨v, hrun, hv⟩ := h hGv c0 a hN0 ⟨hs0.st, hs.ok hGv hs0.fr, hs0.size, hs0.defers⟩
      exact ⟨v, .inl ⟨hw.2 (hgo.1 hGv), fun w hw' => hrun w hw'⟩, .ifb _ _ _ (fun _ => hv) (fun h => by cases h)⟩
    | false =>
      refine ⟨undef, .inr ⟨?_, rfl⟩, .ifb _ _ _ (fun h => by cases h) (fun _ => rfl)⟩
      cases hb : Region.wanted o (yielded ops a.tmps) with
      | true => exact absurd (hw.1 hb) (hgo.2 hGv)
      | false => rfl
  obtain ⟨v, hy, hv⟩ := key
  refine wpAnyH_take (v := v) hi hsel hf hr (fun ch a w hq => absurd hq (hp ch _ w)) hy hduo.same ?_
  have e1 := hs0.set hs0.st (Step.refl c0) hv hdn
  have e2 := hsit.set hsit.st (Step.refl c) (hduo.vr hv) hdn
  rw [hd] at e1 e2 ⊢
  exact k c0 c _ hN0 e1 hN e2 hduo Q hp hk

/-- One that has come up is carried out. -/
def AStep (P : Program) (nt : Nat) (ops : Array Oper) (Hr : Heap) (N0 fuel : Nat) (listed : Array Bool) (fr0 : Frame) (N : Nat) (fr : Frame) (H : Heap) (K : Nat → Frame → Heap → Prop) (i : Nat) : Prop :=
  ∀ c0 c a, c0.N = N0 → Sit nt c0 a fr0 Hr → c.N = N → Sit nt c a fr H → Duo c0 c → ∀ Q : Exit → Act → World → Prop, (∀ ch a w, ¬ Q (.panic ch) a w) →
    (∀ c' a' fr' H', Sit nt c' a' fr' H' → Step c c' → Duo c0 c' → K c'.N fr' H' → Q .normal a' c'.w) →
    wpOp P ops Q i (fun a' w' => Same c0 w' ∧ wpAnyH P .any ops Q (Same c0) fuel (listed.setIfInBounds i true) a' w') a c.w

theorem AAny.all (rs : List Nat) (hr : Region.ready .any ops listed = rs) (hne : rs ≠ []) (h : ∀ i, i ∈ rs → AStep P nt ops Hr N0 fuel listed fr0 N fr H K i) : AAny P nt ops Hr N0 (fuel + 1) listed fr0 N fr H K :=
  fun c0 c a hN0 hs0 hN hs hduo Q hp hk => wpAnyH_all hr hne fun i hi => h i hi c0 c a hN0 hs0 hN hs hduo Q hp hk

theorem AAny.one (i : Nat) (hr : Region.ready .any ops listed = [i]) (h : AStep P nt ops Hr N0 fuel listed fr0 N fr H K i) : AAny P nt ops Hr N0 (fuel + 1) listed fr0 N fr H K :=
  AAny.all [i] hr (by simp) fun j hj => by rw [List.mem_singleton] at hj; subst hj; exact h

theorem AAny.two (i j : Nat) (hr : Region.ready .any ops listed = [i, j]) (h1 : AStep P nt ops Hr N0 fuel listed fr0 N fr H K i) (h2 : AStep P nt ops Hr N0 fuel listed fr0 N fr H K j) : AAny P nt ops Hr N0 (fuel + 1) listed fr0 N fr H K :=
  AAny.all [i, j] hr (by simp) fun k hk => by
    rcases List.mem_cons.1 hk with rfl | hk
    · exact h1
    · rw [List.mem_singleton] at hk; subst hk; exact h2

def fdelO (fr : Frame) : Option Nat → Frame
  | some d => fdel fr d
  | none => fr

theorem FrR.del {c : Cx} {a : Act} {fr : Frame} (hf : FrR c a fr) (d : Option Nat) (v : Value) (hd : ∀ i, d = some i → i < a.tmps.size) : FrR c (a.put d v) (fdelO fr d) := by
  cases d with
  | none => exact hf
  | some i =>
    intro p hp
    obtain ⟨h1, h2⟩ := fdel_mem hp
    have := hf p h1
    simp only [Act.put, Array.size_setIfInBounds]
    refine ⟨this.1, ?_⟩
    rw [getD_set _ _ _ _ _ (hd i rfl), if_neg (Ne.symm h2)]
    exact this.2

theorem AStep.op {i : Nat} {R : Nat → AV → Heap → Prop} (h : AOp P nt o N fr H R) (hi : ops[i]? = some o) (hg : o.guard = none) (hd : ∀ k, o.dst = some k → k < nt)
    (k : ∀ N' r H', N ≤ N' → R N' r H' → AAny P nt ops Hr N0 fuel (listed.setIfInBounds i true) (fdelO fr0 o.dst) N' (fput fr o.dst r) H' K) : AStep P nt ops Hr N0 fuel listed fr0 N fr H K i := by
  intro c0 c a hN0 hs0 hN hs hduo Q hp hk
  unfold wpOp
  rw [hi]
  have hw : Region.wanted o (yielded ops a.tmps) = true := by simp [Region.wanted, hg]
  simp only [hw, if_true]
  refine .inl (h c a hN hs _ _ fun v c' r H' h1 h2 h3 h4 => ?_)
  have hduo' := hduo.step hs0.st hs.st h2
  refine ⟨hduo'.same, k c'.N r H' (hN ▸ h2.names) h4 c0 c' _ hN0 ⟨hs0.st, hs0.fr.del _ _ fun k hk => by rw [hs0.size]; exact hd k hk, by rw [size_put]; exact hs0.size, by rw [defers_put]; exact hs0.defers⟩ rfl (hs.set h1 h2 h3 hd) hduo' Q hp fun c2 a2 fr2 H2 g1 g2 g3 g4 => hk c2 a2 fr2 H2 g1 (h2.trans g2) g3 g4⟩

/-- A guarded one that leaves the heap as it was. -/
theorem AStep.gcall {i d j t : Nat} {oj : Oper} {want G : Bool} {x r : AV} {fr' : Frame} {R : Nat → AV → Heap → Prop} (hg : o.guard = some (j, want)) (hj : ops[j]? = some oj) (ht : oj.dst = some t) (hx : fget fr t = some x) (hG : guardOf want x = some G)
    (hs : Sub G fr fr') (h : G = true → AOp P nt o N fr' H R) (hR : ∀ N' r' H', R N' r' H' → r' = r ∧ H' = H) (hi : ops[i]? = some o) (hd : o.dst = some d) (hn : Nat.ble (d + 1) nt = true)
    (k : ∀ N', N ≤ N' → AAny P nt ops Hr N0 fuel (listed.setIfInBounds i true) (fdel fr0 d) N' (fset fr d (.ifb G r)) H K) : AStep P nt ops Hr N0 fuel listed fr0 N fr H K i := by
  intro c0 c a hN0 hs0 hN hsit hduo Q hp hk
  have hdn : ∀ k, o.dst = some k → k < nt := fun k hk => by rw [hd] at hk; cases hk; exact Nat.le_of_ble_eq_true hn
  unfold wpOp
  rw [hi]
  have hget := hsit.fr.get hx
  have hgo := guard_ok hG hget.2
  have hw := Region.wanted_iff (ops := ops) (a := a) hg hj ht hget.1 rfl
  have del : ∀ v, Sit nt c0 (a.put o.dst v) (fdel fr0 d) Hr := fun v => by
    have := hs0.fr.del o.dst v fun k hk => by rw [hs0.size]; exact hdn k hk
    rw [hd] at this ⊢
    exact ⟨hs0.st, this, by rw [size_put]; exact hs0.size, by rw [defers_put]; exact hs0.defers⟩
  cases hGv : G with
  | true =>
    have hw' := hw.2 (hgo.1 hGv)
    simp only [hw', if_true]
    refine .inl (h hGv c a hN ⟨hsit.st, hs.ok hGv hsit.fr, hsit.size, hsit.defers⟩ _ _ fun v c' r' H' h1 h2 h3 h4 => ?_)
    obtain ⟨rfl, rfl⟩ := hR _ _ _ h4
    have h3' : VR c'.w c'.F c'.ρ c'.N (.ifb G r') v := .ifb _ _ _ (fun _ => h3) (fun h => by rw [hGv] at h; cases h)
    have hset := hsit.set h1 h2 h3' hdn
    have hdel := del v
    rw [hd] at hset hdel ⊢
    have hduo' := hduo.step hs0.st hsit.st h2
    exact ⟨hduo'.same, k c'.N (hN ▸ h2.names) c0 c' _ hN0 hdel rfl hset hduo' Q hp fun c2 a2 fr2 H2 g1 g2 g3 g4 => hk c2 a2 fr2 H2 g1 (h2.trans g2) g3 g4⟩
  | false =>
    have hw' : Region.wanted o (yielded ops a.tmps) = false := by
      cases hb : Region.wanted o (yielded ops a.tmps) with
      | true => exact absurd (hw.1 hb) (hgo.2 hGv)
      | false => rfl
    simp only [hw', Bool.false_eq_true, if_false]
    have h3' : VR c.w c.F c.ρ c.N (.ifb G r) undef := .ifb _ _ _ (fun h => by rw [hGv] at h; cases h) (fun _ => rfl)
    have hset := hsit.set hsit.st (Step.refl c) h3' hdn
    have hdel := del undef
    rw [hd] at hset hdel ⊢
    exact ⟨hduo.same, k N (Nat.le_refl _) c0 c _ hN0 hdel hN hset hduo Q hp hk⟩

theorem AStep.opd {i d : Nat} {R : Nat → AV → Heap → Prop} (h : AOp P nt o N fr H R) (hi : ops[i]? = some o) (hg : o.guard = none) (hd : o.dst = some d) (hn : Nat.ble (d + 1) nt = true)
    (k : ∀ N' r H', N ≤ N' → R N' r H' → AAny P nt ops Hr N0 fuel (listed.setIfInBounds i true) (fdel fr0 d) N' (fset fr d r) H' K) : AStep P nt ops Hr N0 fuel listed fr0 N fr H K i :=
  AStep.op h hi hg (fun k hk => by rw [hd] at hk; cases hk; exact Nat.le_of_ble_eq_true hn) fun N' r H' hN hr => by rw [hd]; exact k N' r H' hN hr

theorem AStep.op0 {i : Nat} {R : Nat → AV → Heap → Prop} (h : AOp P nt o N fr H R) (hi : ops[i]? = some o) (hg : o.guard = none) (hd : o.dst = none)
    (k : ∀ N' r H', N ≤ N' → R N' r H' → AAny P nt ops Hr N0 fuel (listed.setIfInBounds i true) fr0 N' fr H' K) : AStep P nt ops Hr N0 fuel listed fr0 N fr H K i :=
  AStep.op h hi hg (fun k hk => by rw [hd] at hk; cases hk) fun N' r H' hN hr => by rw [hd]; exact k N' r H' hN hr

theorem AStep.op1 {i d N1 : Nat} {r1 : AV} {H1 : Heap} (h : AOp P nt o N fr H fun N' r H' => N' = N1 ∧ r = r1 ∧ H' = H1) (hi : ops[i]? = some o) (hg : o.guard = none) (hd : o.dst = some d) (hn : Nat.ble (d + 1) nt = true)
    (k : AAny P nt ops Hr N0 fuel (listed.setIfInBounds i true) (fdel fr0 d) N1 (fset fr d r1) H1 K) : AStep P nt ops Hr N0 fuel listed fr0 N fr H K i :=
  AStep.opd h hi hg hd hn fun N' r H' hN hr => by obtain ⟨rfl, rfl, rfl⟩ := hr; exact k

theorem AStep.op10 {i N1 : Nat} {r1 : AV} {H1 : Heap} (h : AOp P nt o N fr H fun N' r H' => N' = N1 ∧ r = r1 ∧ H' = H1) (hi : ops[i]? = some o) (hg : o.guard = none) (hd : o.dst = none)
    (k : AAny P nt ops Hr N0 fuel (listed.setIfInBounds i true) fr0 N1 fr H1 K) : AStep P nt ops Hr N0 fuel listed fr0 N fr H K i :=
  AStep.op0 h hi hg hd fun N' r H' hN hr => by obtain ⟨rfl, rfl, rfl⟩ := hr; exact k

theorem AStep.read {i d : Nat} {r : AV} (h : ARead P nt o N fr H r) (hi : ops[i]? = some o) (hg : o.guard = none) (hd : o.dst = some d) (hn : Nat.ble (d + 1) nt = true)
    (k : AAny P nt ops Hr N0 fuel (listed.setIfInBounds i true) (fdel fr0 d) N (fset fr d r) H K) : AStep P nt ops Hr N0 fuel listed fr0 N fr H K i :=
  AStep.op1 (AOp.of_read h) hi hg hd hn k

theorem AStep.gread {i d j t : Nat} {oj : Oper} {want G : Bool} {x r : AV} {fr' : Frame} (hg : o.guard = some (j, want)) (hj : ops[j]? = some oj) (ht : oj.dst = some t) (hx : fget fr t = some x) (hG : guardOf want x = some G)
    (hs : Sub G fr fr') (h : G = true → ARead P nt o N fr' H r) (hi : ops[i]? = some o) (hd : o.dst = some d) (hn : Nat.ble (d + 1) nt = true)
    (k : AAny P nt ops Hr N0 fuel (listed.setIfInBounds i true) (fdel fr0 d) N (fset fr d (.ifb G r)) H K) : AStep P nt ops Hr N0 fuel listed fr0 N fr H K i := by
  cases hGv : G with
  | true =>
    subst hGv
    intro c0 c a hN0 hs0 hN hsit hduo Q hp hk
    have hdn : ∀ k, o.dst = some k → k < nt := fun k hk => by rw [hd] at hk; cases hk; exact Nat.le_of_ble_eq_true hn
    have hget := hsit.fr.get hx
    have hw' := (Region.wanted_iff (ops := ops) (a := a) hg hj ht hget.1 rfl).2 ((guard_ok hG hget.2).1 rfl)
    unfold wpOp
    rw [hi]
    simp only [hw', if_true]
    refine .inl (AOp.of_read (h rfl) c a hN ⟨hsit.st, hs.ok rfl hsit.fr, hsit.size, hsit.defers⟩ _ _ fun v c' r' H' h1 h2 h3 h4 => ?_)
    obtain ⟨e1, rfl, rfl⟩ := h4
    have h3' : VR c'.w c'.F c'.ρ c'.N (.ifb true r') v := .ifb _ _ _ (fun _ => h3) (fun h => by cases h)
    have hset := hsit.set h1 h2 h3' hdn
    have hdel : Sit nt c0 (a.put o.dst v) (fdel fr0 d) Hr := by
      have := hs0.fr.del o.dst v fun k hk => by rw [hs0.size]; exact hdn k hk
      rw [hd] at this ⊢
      exact ⟨hs0.st, this, by rw [size_put]; exact hs0.size, by rw [defers_put]; exact hs0.defers⟩
    rw [hd] at hset hdel ⊢
    have hduo' := hduo.step hs0.st hsit.st h2
    exact ⟨hduo'.same, k c0 c' _ hN0 hdel e1 hset hduo' Q hp fun c2 a2 fr2 H2 g1 g2 g3 g4 => hk c2 a2 fr2 H2 g1 (h2.trans g2) g3 g4⟩
  | false =>
    subst hGv
    intro c0 c a hN0 hs0 hN hsit hduo Q hp hk
    have hdn : ∀ k, o.dst = some k → k < nt := fun k hk => by rw [hd] at hk; cases hk; exact Nat.le_of_ble_eq_true hn
    have hget := hsit.fr.get hx
    have hw := Region.wanted_iff (ops := ops) (a := a) hg hj ht hget.1 rfl
    have hw' : Region.wanted o (yielded ops a.tmps) = false := by
      cases hb : Region.wanted o (yielded ops a.tmps) with
      | true => exact absurd (hw.1 hb) ((guard_ok hG hget.2).2 rfl)
      | false => rfl
    unfold wpOp
    rw [hi]
    simp only [hw', Bool.false_eq_true, if_false]
    have h3' : VR c.w c.F c.ρ c.N (.ifb false r) undef := .ifb _ _ _ (fun h => by cases h) (fun _ => rfl)
    have hset := hsit.set hsit.st (Step.refl c) h3' hdn
    have hdel : Sit nt c0 (a.put o.dst undef) (fdel fr0 d) Hr := by
      have := hs0.fr.del o.dst undef fun k hk => by rw [hs0.size]; exact hdn k hk
      rw [hd] at this ⊢
      exact ⟨hs0.st, this, by rw [size_put]; exact hs0.size, by rw [defers_put]; exact hs0.defers⟩
    rw [hd] at hset hdel ⊢
    exact ⟨hduo.same, k c0 c _ hN0 hdel hN hset hduo Q hp hk⟩

theorem AStep.pcall {i d : Nat} {f : Operand} {args : Array Operand} {ts : Array TypeId} {g : FuncId} {first cap xs : List AV} {v : AV} (h : APure P g (first ++ xs ++ cap) v) (ho : o.op = .call { callee := .value f, args := args, argTypes := ts })
    (hf : aev fr f = some (.fn (.func g) first cap) ∨ (aev fr f = some (.fv (.fn (.func g))) ∧ first = [] ∧ cap = [])) (hx : args.toList.mapM (aev fr) = some xs) (hi : ops[i]? = some o) (hg : o.guard = none) (hd : o.dst = some d) (hn : Nat.ble (d + 1) nt = true)
    (k : ∀ N', N ≤ N' → AAny P nt ops Hr N0 fuel (listed.setIfInBounds i true) (fdel fr0 d) N' (fset fr d v) H K) : AStep P nt ops Hr N0 fuel listed fr0 N fr H K i :=
  AStep.opd (AOp.call ho hf hx (h.at N H)) hi hg hd hn fun N' r H' hN hr => by obtain ⟨rfl, rfl⟩ := hr; exact k N' hN

theorem AStep.gpcall {i d j t : Nat} {oj : Oper} {want G : Bool} {x : AV} {fr' : Frame} {f : Operand} {args : Array Operand} {ts : Array TypeId} {g : FuncId} {first cap xs : List AV} {v : AV}
    (hg : o.guard = some (j, want)) (hj : ops[j]? = some oj) (ht : oj.dst = some t) (hx0 : fget fr t = some x) (hG : guardOf want x = some G) (hs : Sub G fr fr')
    (ho : o.op = .call { callee := .value f, args := args, argTypes := ts })
    (hf : aev fr' f = some (.fn (.func g) first cap) ∨ (aev fr' f = some (.fv (.fn (.func g))) ∧ first = [] ∧ cap = [])) (hx : args.toList.mapM (aev fr') = some xs) (h : G = true → APure P g (first ++ xs ++ cap) v)
    (hi : ops[i]? = some o) (hd : o.dst = some d) (hn : Nat.ble (d + 1) nt = true)
    (k : ∀ N', N ≤ N' → AAny P nt ops Hr N0 fuel (listed.setIfInBounds i true) (fdel fr0 d) N' (fset fr d (.ifb G v)) H K) : AStep P nt ops Hr N0 fuel listed fr0 N fr H K i :=
  AStep.gcall hg hj ht hx0 hG hs (fun hGt => AOp.call ho hf hx ((h hGt).at N H)) (fun N' r' H' hr => ⟨hr.1, hr.2⟩) hi hd hn k

variable {Q : Post} {y : Code} {Hw : Heap}

/-- A region whose order is left open. -/
theorem AWp.drawn {id : Nat} (hm : P.follows .mixedOrders = true) (ht : Take Hr H Hw) (h : AAny P nt ops Hr N ops.size (Array.replicate ops.size false) fr N fr Hw fun N' fr' H' => Q .normal N' fr' (H' ++ Hr)) : AWp P nt (.region id ops true) N fr H Q := by
  intro c a hN hs Q' hk
  obtain ⟨Or, Ow, hr, hw, hp⟩ := ht.split hs.st.hr
  have hp' : c.Own.Perm (Ow ++ Or) := hp.trans List.perm_append_comm
  have hst0 : St { c with Own := Ow ++ Or } (Hw ++ Hr) := hs.st.perm (hw.app hr) hp'
  have hnd := List.nodup_append.1 hst0.nodup
  have hstep0 := Step.reown c (Ow ++ Or) fun b hb => hp'.mem_iff.2 hb
  let wd : World := { c.w with drawn := c.w.drawn + 1 }
  have mono : ∀ {H : Heap} {O : List Nat}, HR c.w c.F c.ρ c.N H O → HR wd c.F c.ρ c.N H O := fun h => h.mono (w := c.w) (w' := wd) (F' := c.F) (ρ' := c.ρ) (N' := c.N) (fun b hb => ⟨hb, rfl⟩) (Nat.le_refl _) (fun _ _ => rfl) (fun _ _ => rfl)
  have vmono : ∀ {x : AV} {v : Value}, VR c.w c.F c.ρ c.N x v → VR wd c.F c.ρ c.N x v := fun h => h.mono (w := c.w) (w' := wd) (F' := c.F) (ρ' := c.ρ) (N' := c.N) (fun b hb => ⟨hb, rfl⟩) (Nat.le_refl _) (fun _ _ => rfl)
  have hst1 : St ⟨wd, c.F, c.ρ, c.N, Ow ++ Or⟩ (Hw ++ Hr) := ⟨(mono hw).app (mono hr), hst0.nodup, hst0.notF, hst0.inF⟩
  have hr0 : St ⟨wd, c.F, c.ρ, c.N, Or⟩ Hr := ⟨mono hr, hnd.2.1, fun b hb => hst0.notF b (List.mem_append_right _ hb), hst0.inF⟩
  have hw0 : St ⟨wd, c.F, c.ρ, c.N, Ow⟩ Hw := ⟨mono hw, hnd.1, fun b hb => hst0.notF b (List.mem_append_left _ hb), hst0.inF⟩
  have hfr : ∀ O, FrR ⟨wd, c.F, c.ρ, c.N, O⟩ a fr := fun O p hp => ⟨(hs.fr p hp).1, vmono (hs.fr p hp).2⟩
  have hstepd : Step c ⟨wd, c.F, c.ρ, c.N, Ow ++ Or⟩ := ⟨rfl, rfl, rfl, Nat.le_refl _, fun _ _ _ => rfl, fun _ h => h, fun _ h => .inl h, fun b hb => .inl (hp'.mem_iff.2 hb), Nat.le_refl _, fun _ _ => rfl⟩
  refine wp_mono (wp_region_held (S := Same ⟨wd, c.F, c.ρ, c.N, Or⟩) (Q := fun e a w => match e with | .normal => Q' .normal a w | _ => False) hm
    (h ⟨wd, c.F, c.ρ, c.N, Or⟩ ⟨wd, c.F, c.ρ, c.N, Ow⟩ a hN ⟨hr0, hfr _, hs.size, hs.defers⟩ hN ⟨hw0, hfr _, hs.size, hs.defers⟩
      ⟨fun b hb hb' => hnd.2.2 b hb' b hb rfl, fun b hb => hst0.notF b (List.mem_append_right _ hb), fun _ h => h, Nat.le_refl _, Nat.le_refl _, fun _ _ => rfl, fun _ _ => rfl⟩ _ (fun _ _ _ h => h) ?_)) ?_
  · intro c' a' fr' H' h1 h2 h3 h4
    obtain ⟨g1, g2⟩ := frame_back hst1 (mono hw) (mono hr) rfl h1.st h2
    refine hk .normal { c' with Own := c'.Own ++ Or } a' fr' (H' ++ Hr) ⟨g1, ?_, h1.size, h1.defers⟩ (hstepd.trans g2) h4
    exact h1.fr
  · intro e a w hq
    cases e <;> first | exact hq | exact hq.elim

theorem AWp.drawnK {id : Nat} (hm : P.follows .mixedOrders = true) (ht : Take Hr H Hw)
    (h : ∀ K : Nat → Frame → Heap → Prop, (∀ N' fr' H', AWp P nt y N' fr' (H' ++ Hr) Q → K N' fr' H') → AAny P nt ops Hr N ops.size (Array.replicate ops.size false) fr N fr Hw K) : AWp P nt (.seq (.region id ops true) y) N fr H Q :=
  AWp.seq (AWp.drawn hm ht (h _ fun _ _ _ h => h))

end Go.Sl
