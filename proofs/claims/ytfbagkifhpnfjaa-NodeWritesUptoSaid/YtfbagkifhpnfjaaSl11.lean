/- The rules as steps of a walk. No condition. -/
import Derived.Test.YtfbagkifhpnfjaaSl10
namespace Go.Sl
open Go
set_option linter.unusedVariables false
variable {P : Program} {nt N : Nat} {ops : Array Oper} {o : Oper} {rest : List Oper} {fr : Frame} {H : Heap} {K : Nat → Frame → Heap → Prop}

theorem AOps.read {d : Nat} {r : AV} (h : ARead P nt o N fr H r) (hg : o.guard = none) (hd : o.dst = some d) (hn : Nat.ble (d + 1) nt = true) (k : AOps P nt ops rest N (fset fr d r) H K) : AOps P nt ops (o :: rest) N fr H K :=
  AOps.cons hg (fun i hi => by rw [hd] at hi; cases hi; exact Nat.le_of_ble_eq_true hn) (AOp.of_read h) fun N' r' H' _ hr => by
    obtain ⟨rfl, rfl, rfl⟩ := hr; rw [hd]; exact k

theorem AOps.op {d : Nat} {R : Nat → AV → Heap → Prop} (h : AOp P nt o N fr H R) (hg : o.guard = none) (hd : o.dst = some d) (hn : Nat.ble (d + 1) nt = true) (k : ∀ N' r H', N ≤ N' → R N' r H' → AOps P nt ops rest N' (fset fr d r) H' K) : AOps P nt ops (o :: rest) N fr H K :=
  AOps.cons hg (fun i hi => by rw [hd] at hi; cases hi; exact Nat.le_of_ble_eq_true hn) h fun N' r' H' hN hr => by
    rw [hd]; exact k N' r' H' hN hr

/-- An operation without a slot. -/
theorem AOps.op0 {R : Nat → AV → Heap → Prop} (h : AOp P nt o N fr H R) (hg : o.guard = none) (hd : o.dst = none) (k : ∀ N' r H', N ≤ N' → R N' r H' → AOps P nt ops rest N' fr H' K) : AOps P nt ops (o :: rest) N fr H K :=
  AOps.cons hg (fun i hi => by rw [hd] at hi; cases hi) h fun N' r' H' hN hr => by
    rw [hd]; exact k N' r' H' hN hr

theorem AOps.op1 {d : Nat} {N1 : Nat} {r1 : AV} {H1 : Heap} (h : AOp P nt o N fr H fun N' r H' => N' = N1 ∧ r = r1 ∧ H' = H1) (hg : o.guard = none) (hd : o.dst = some d) (hn : Nat.ble (d + 1) nt = true) (k : AOps P nt ops rest N1 (fset fr d r1) H1 K) : AOps P nt ops (o :: rest) N fr H K :=
  AOps.op h hg hd hn fun N' r H' _ hr => by obtain ⟨rfl, rfl, rfl⟩ := hr; exact k

theorem AOps.op10 {N1 : Nat} {r1 : AV} {H1 : Heap} (h : AOp P nt o N fr H fun N' r H' => N' = N1 ∧ r = r1 ∧ H' = H1) (hg : o.guard = none) (hd : o.dst = none) (k : AOps P nt ops rest N1 fr H1 K) : AOps P nt ops (o :: rest) N fr H K :=
  AOps.op0 h hg hd fun N' r H' _ hr => by obtain ⟨rfl, rfl, rfl⟩ := hr; exact k

/-- What a value is, where something holds. -/
inductive Imp (G : Bool) : AV → AV → Prop
  | strip (c : Bool) (x : AV) (h : G = true → c = true) : Imp G (.ifb c x) x
  | cond (c c' : Bool) (x : AV) (h : G = true → c = c') : Imp G (.ifb c x) (.ifb c' x)
  | same (x : AV) : Imp G x x

/-- Slots as they are where something holds. -/
inductive Sub (G : Bool) (fr : Frame) : Frame → Prop
  | nil : Sub G fr []
  | cons (i : Nat) (x y : AV) (r : Frame) (h : fget fr i = some x) (hi : Imp G x y) (hr : Sub G fr r) : Sub G fr ((i, y) :: r)

theorem Imp.ok {G : Bool} (hG : G = true) {x y : AV} (h : Imp G x y) {w : World} {F : Nat → Prop} {ρ : Nat → Nat} {v : Value} (hv : VR w F ρ N x v) : VR w F ρ N y v := by
  cases h with
  | strip c x h => cases hv with | ifb _ _ _ h1 h2 => exact h1 (h hG)
  | cond c c' x h => rw [h hG] at hv; exact hv
  | same => exact hv

theorem Sub.ok {G : Bool} (hG : G = true) {fr' : Frame} (h : Sub G fr fr') {c : Cx} {a : Act} (hf : FrR c a fr) : FrR c a fr' := by
  induction h with
  | nil => intro p hp; cases hp
  | cons i x y r h hi _ ih =>
    intro p hp
    rcases List.mem_cons.1 hp with rfl | hp
    · exact ⟨(hf.get h).1, hi.ok hG (hf.get h).2⟩
    · exact ih p hp

/-- Under which condition an operation is wanted: the slot that guards it. -/
def guardOf : Bool → AV → Option Bool
  | true, .fv (.bool g) => some g
  | false, .fv (.bool g) => some (!g)
  | true, .ifb c (.fv (.bool g)) => some (c && g)
  | false, .ifb c (.fv (.bool g)) => some (c && !g)
  | _, _ => none

theorem guard_ok {want : Bool} {x : AV} {G : Bool} (h : guardOf want x = some G) {w : World} {F : Nat → Prop} {ρ : Nat → Nat} {v : Value} (hv : VR w F ρ N x v) :
    (G = true → v = .bool want) ∧ (G = false → v ≠ .bool want) := by
  unfold guardOf at h
  split at h
  · rename_i g
    obtain rfl := Option.some.inj h
    obtain rfl := hv.bool_inv
    cases g <;> simp
  · rename_i g
    obtain rfl := Option.some.inj h
    obtain rfl := hv.bool_inv
    cases g <;> simp
  · rename_i c g
    obtain rfl := Option.some.inj h
    cases hv with
    | ifb _ _ _ h1 h2 =>
      cases c
      · have := h2 rfl; subst this
        simp [undef]
      · obtain rfl := (h1 rfl).bool_inv
        cases g <;> simp
  · rename_i c g
    obtain rfl := Option.some.inj h
    cases hv with
    | ifb _ _ _ h1 h2 =>
      cases c
      · have := h2 rfl; subst this
        simp [undef]
      · obtain rfl := (h1 rfl).bool_inv
        cases g <;> simp
  · cases h

theorem Region.wanted_iff {ops : Array Oper} {o oj : Oper} {a : Act} {j t : Nat} {want : Bool} {v : Value} (hg : o.guard = some (j, want)) (hj : ops[j]? = some oj) (ht : oj.dst = some t) (hlt : t < a.tmps.size) (hv : a.tmps.getD t undef = v) :
    Region.wanted o (yielded ops a.tmps) = true ↔ v = .bool want := by
  have h1 : a.tmps[t]? = some v := getD_at hlt hv
  simp only [Region.wanted, hg, yielded, hj, Option.bind_some, ht, h1]
  cases v <;> simp

/-- A guarded operation, either way. -/
theorem AOps.gop {d j t : Nat} {oj : Oper} {want G : Bool} {x : AV} {fr' : Frame} {R : Nat → AV → Heap → Prop} (hg : o.guard = some (j, want)) (hj : ops[j]? = some oj) (ht : oj.dst = some t) (hx : fget fr t = some x) (hG : guardOf want x = some G)
    (hs : Sub G fr fr') (h : G = true → AOp P nt o N fr' H R) (hd : o.dst = some d) (hn : Nat.ble (d + 1) nt = true)
    (k : ∀ N' r H', N ≤ N' → (G = true → ∃ r0, R N' r0 H' ∧ r = .ifb G r0) → (G = false → N' = N ∧ H' = H ∧ ∃ r0, r = .ifb G r0) → AOps P nt ops rest N' (fset fr d r) H' K) : AOps P nt ops (o :: rest) N fr H K := by
  intro i hi c a hN hsit Q hq
  obtain ⟨ho, hrest⟩ := drop_succ hi
  have ho' : ops[i]? = some o := by rw [← ho]; simp
  have hdn : ∀ k, o.dst = some k → k < nt := fun k hk => by rw [hd] at hk; cases hk; exact Nat.le_of_ble_eq_true hn
  simp only [List.length_cons, List.range'_succ, wpOps, ho']
  have hget := hsit.fr.get hx
  have hgo := guard_ok hG hget.2
  have hw := Region.wanted_iff (ops := ops) (a := a) hg hj ht hget.1 rfl
  cases hGv : G with
  | true =>
    have hw' := hw.2 (hgo.1 hGv)
    rw [if_pos hw']
    subst hGv
    refine .inl (h rfl c a hN ⟨hsit.st, hs.ok rfl hsit.fr, hsit.size, hsit.defers⟩ _ _ fun v c' r H' h1 h2 h3 h4 => ?_)
    have h3' : VR c'.w c'.F c'.ρ c'.N (.ifb true r) v := .ifb _ _ _ (fun _ => h3) (fun h => by cases h)
    have hset := hsit.set h1 h2 h3' hdn
    rw [hd] at hset ⊢
    exact k c'.N (.ifb true r) H' (hN ▸ h2.names) (fun _ => ⟨r, h4, rfl⟩) (fun h => by cases h) (i + 1) hrest c' _ rfl hset Q fun c2 a2 fr2 H2 g1 g2 g3 => hq c2 a2 fr2 H2 g1 (h2.trans g2) g3
  | false =>
    have hw' : ¬ (Region.wanted o (yielded ops a.tmps) = true) := fun hh => hgo.2 hGv (hw.1 hh)
    rw [if_neg hw']
    subst hGv
    have h3' : VR c.w c.F c.ρ c.N (.ifb false .junk) undef := .ifb _ _ _ (fun h => by cases h) (fun _ => rfl)
    have hset := hsit.set hsit.st (Step.refl c) h3' hdn
    rw [hd] at hset ⊢
    exact k N (.ifb false .junk) H (Nat.le_refl _) (fun h => by cases h) (fun _ => ⟨rfl, rfl, _, rfl⟩) (i + 1) hrest c _ hN hset Q hq

/-- A guarded operation that leaves the world alone. -/
theorem AOps.gread {d j t : Nat} {oj : Oper} {want G : Bool} {x r : AV} {fr' : Frame} (hg : o.guard = some (j, want)) (hj : ops[j]? = some oj) (ht : oj.dst = some t) (hx : fget fr t = some x) (hG : guardOf want x = some G)
    (hs : Sub G fr fr') (h : G = true → ARead P nt o N fr' H r) (hd : o.dst = some d) (hn : Nat.ble (d + 1) nt = true)
    (k : AOps P nt ops rest N (fset fr d (.ifb G r)) H K) : AOps P nt ops (o :: rest) N fr H K := by
  intro i hi c a hN hsit Q hq
  obtain ⟨ho, hrest⟩ := drop_succ hi
  have ho' : ops[i]? = some o := by rw [← ho]; simp
  have hdn : ∀ k, o.dst = some k → k < nt := fun k hk => by rw [hd] at hk; cases hk; exact Nat.le_of_ble_eq_true hn
  simp only [List.length_cons, List.range'_succ, wpOps, ho']
  have hget := hsit.fr.get hx
  have hgo := guard_ok hG hget.2
  have hw := Region.wanted_iff (ops := ops) (a := a) hg hj ht hget.1 rfl
  cases hGv : G with
  | true =>
    have hw' := hw.2 (hgo.1 hGv)
    rw [if_pos hw']
    obtain ⟨v, hrun, hv⟩ := h hGv c a hN ⟨hsit.st, hs.ok hGv hsit.fr, hsit.size, hsit.defers⟩
    refine .inl ?_
    unfold Oper.wp
    rw [hrun c.w (Same.refl c)]
    have h3' : VR c.w c.F c.ρ c.N (.ifb G r) v := .ifb _ _ _ (fun _ => hv) (fun h => by rw [hGv] at h; cases h)
    have hset := hsit.set hsit.st (Step.refl c) h3' hdn
    rw [hd] at hset
    show wpOps P ops Q _ (a.put o.dst v) c.w
    rw [hd]
    exact k (i + 1) hrest c _ hN hset Q hq
  | false =>
    have hw' : ¬ (Region.wanted o (yielded ops a.tmps) = true) := fun hh => hgo.2 hGv (hw.1 hh)
    rw [if_neg hw']
    have h3' : VR c.w c.F c.ρ c.N (.ifb G r) undef := .ifb _ _ _ (fun h => by rw [hGv] at h; cases h) (fun _ => rfl)
    have hset := hsit.set hsit.st (Step.refl c) h3' hdn
    rw [hd] at hset ⊢
    exact k (i + 1) hrest c _ hN hset Q hq

/-- A guarded call that leaves the heap as it was. -/
theorem AOps.gcall {d j t : Nat} {oj : Oper} {want G : Bool} {x r : AV} {fr' : Frame} {R : Nat → AV → Heap → Prop} (hg : o.guard = some (j, want)) (hj : ops[j]? = some oj) (ht : oj.dst = some t) (hx : fget fr t = some x) (hG : guardOf want x = some G)
    (hs : Sub G fr fr') (h : G = true → AOp P nt o N fr' H R) (hR : ∀ N' r' H', R N' r' H' → r' = r ∧ H' = H) (hd : o.dst = some d) (hn : Nat.ble (d + 1) nt = true)
    (k : ∀ N', N ≤ N' → AOps P nt ops rest N' (fset fr d (.ifb G r)) H K) : AOps P nt ops (o :: rest) N fr H K := by
  intro i hi c a hN hsit Q hq
  obtain ⟨ho, hrest⟩ := drop_succ hi
  have ho' : ops[i]? = some o := by rw [← ho]; simp
  have hdn : ∀ k, o.dst = some k → k < nt := fun k hk => by rw [hd] at hk; cases hk; exact Nat.le_of_ble_eq_true hn
  simp only [List.length_cons, List.range'_succ, wpOps, ho']
  have hget := hsit.fr.get hx
  have hgo := guard_ok hG hget.2
  have hw := Region.wanted_iff (ops := ops) (a := a) hg hj ht hget.1 rfl
  cases hGv : G with
  | true =>
    have hw' := hw.2 (hgo.1 hGv)
    rw [if_pos hw']
    refine .inl (h hGv c a hN ⟨hsit.st, hs.ok hGv hsit.fr, hsit.size, hsit.defers⟩ _ _ fun v c' r' H' h1 h2 h3 h4 => ?_)
    obtain ⟨rfl, rfl⟩ := hR _ _ _ h4
    have h3' : VR c'.w c'.F c'.ρ c'.N (.ifb G r') v := .ifb _ _ _ (fun _ => h3) (fun h => by rw [hGv] at h; cases h)
    have hset := hsit.set h1 h2 h3' hdn
    rw [hd] at hset ⊢
    exact k c'.N (hN ▸ h2.names) (i + 1) hrest c' _ rfl hset Q fun c2 a2 fr2 H2 g1 g2 g3 => hq c2 a2 fr2 H2 g1 (h2.trans g2) g3
  | false =>
    have hw' : ¬ (Region.wanted o (yielded ops a.tmps) = true) := fun hh => hgo.2 hGv (hw.1 hh)
    rw [if_neg hw']
    have h3' : VR c.w c.F c.ρ c.N (.ifb G r) undef := .ifb _ _ _ (fun h => by rw [hGv] at h; cases h) (fun _ => rfl)
    have hset := hsit.set hsit.st (Step.refl c) h3' hdn
    rw [hd] at hset ⊢
    exact k N (Nat.le_refl _) (i + 1) hrest c _ hN hset Q hq

/-- The choice between two bools, one of which may be told only where it is chosen. -/
theorem ARead.pickB {x y z : Operand} {g p q : Bool} {u v : AV} (ho : o.op = .pick x y z) (hx : aev fr x = some (.fv (.bool g))) (hy : aev fr y = some u) (hu : Imp g u (.fv (.bool p))) (hz : aev fr z = some v) (hv : Imp (!g) v (.fv (.bool q))) :
    ARead P nt o N fr H (.fv (.bool (bif g then p else q))) := by
  intro c a hN hs
  subst hN
  have h1 := (aev_ok hs hx).bool_inv
  have h2 := aev_ok hs hy
  have h3 := aev_ok hs hz
  cases g with
  | true =>
    have := (hu.ok rfl h2).bool_inv
    exact ⟨.bool p, fun w' hw' => by simp [execOp, ho, h1, asBool, this], .fv _ _ (.bool _)⟩
  | false =>
    have := (hv.ok rfl h3).bool_inv
    exact ⟨.bool q, fun w' hw' => by simp [execOp, ho, h1, asBool, this], .fv _ _ (.bool _)⟩

def fpick (fr : Frame) : List Nat → Option Frame
  | [] => some []
  | i :: is => match fget fr i, fpick fr is with
    | some x, some r => some ((i, x) :: r)
    | _, _ => none

theorem fpick_mem : ∀ {is : List Nat} {fr' : Frame}, fpick fr is = some fr' → ∀ p, p ∈ fr' → p ∈ fr
  | [], fr', h, p, hp => by simp [fpick] at h; subst h; cases hp
  | i :: is, fr', h, p, hp => by
    simp only [fpick] at h
    split at h
    · rename_i x r hx hr
      obtain rfl := Option.some.inj h
      rcases List.mem_cons.1 hp with rfl | hp
      · exact fget_mem hx
      · exact fpick_mem hr p hp
    · cases h

variable {Q : Post} {x y : Code} {fr' : Frame}

theorem take_all : ∀ (H : Heap), Take H H []
  | [] => .nil _
  | (n, o) :: H => .cons n o H _ H _ (.head H) (take_all H)

/-- Only these slots are wanted any more. -/
theorem AWp.keep (is : List Nat) (h : fpick fr is = some fr') (k : AWp P nt x N fr' H Q) : AWp P nt x N fr H Q :=
  AWp.weak (fpick_mem h) (take_all H) k

/-- Only these objects are wanted any more. -/
theorem AWp.forget {H' Hx : Heap} (h : Take H' H Hx) (k : AWp P nt x N fr H' Q) : AWp P nt x N fr H Q :=
  AWp.weak (fun p hp => hp) h k

theorem AWp.seqK (h : ∀ K : Nat → Frame → Heap → Prop, (∀ N' fr' H', AWp P nt y N' fr' H' Q → K N' fr' H') → AWp P nt x N fr H (Post.then K Q)) : AWp P nt (.seq x y) N fr H Q :=
  AWp.seq (h _ fun _ _ _ h => h)

theorem AWp.regK {id : Nat} (h : ∀ K : Nat → Frame → Heap → Prop, (∀ N' fr' H', AWp P nt y N' fr' H' Q → K N' fr' H') → AOps P nt ops ops.toList N fr H K) : AWp P nt (.seq (.region id ops false) y) N fr H Q :=
  AWp.seq (AWp.region (h _ fun _ _ _ h => h))

theorem AWp.condT {t : Nat} (hb : fget fr t = some (.fv (.bool true))) (h : AWp P nt x N fr H Q) : AWp P nt (.cond (.tmp t) x y) N fr H Q :=
  AWp.cond hb (fun _ => h) (fun h => by cases h)
theorem AWp.condF {t : Nat} (hb : fget fr t = some (.fv (.bool false))) (h : AWp P nt y N fr H Q) : AWp P nt (.cond (.tmp t) x y) N fr H Q :=
  AWp.cond hb (fun h => by cases h) (fun _ => h)

end Go.Sl
