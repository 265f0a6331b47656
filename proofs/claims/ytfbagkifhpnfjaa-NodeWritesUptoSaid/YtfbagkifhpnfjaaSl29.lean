/- Values that hang on no memory, in regions whose order is left open. No condition. -/
import Derived.Test.YtfbagkifhpnfjaaSl28
namespace Go.Sl
open Go
set_option linter.unusedVariables false
variable {P : Program} {nt N N0 : Nat} {ops : Array Oper} {o : Oper} {fr fr0 : Frame} {H Hr : Heap} {K : Nat → Frame → Heap → Prop} {fuel : Nat} {listed : Array Bool}

def FV.closed : FV → Bool
  | .int .. | .bool _ | .str _ | .nilfn | .nilptr | .nilmap | .nilif | .fn _ | .sl _ true 0 _ => true
  | _ => false
def AV.closed : Nat → AV → Bool
  | 0, _ => false
  | d + 1, x => match x with
    | .fv x => x.closed
    | .agg a => a.all (AV.closed d)
    | .tuple a => a.all (AV.closed d)
    | .ifb _ x => AV.closed d x
    | .junk => true
    | _ => false

theorem FV.closed_ok {w w' : World} {F F' : Nat → Prop} {x : FV} {v : Value} (hc : x.closed = true) (h : FR w F x v) : FR w' F' x v := by
  unfold FV.closed at hc
  split at hc
  · cases h; exact .int ..
  · cases h; exact .bool ..
  · cases h; exact .str ..
  · cases h; exact .nilfn
  · cases h; exact .nilptr
  · cases h; exact .nilmap
  · cases h; exact .nilif
  · cases h; exact .fn ..
  · cases h; exact .slnil ..
  · cases hc

theorem AV.closed_ok {w w' : World} {F F' : Nat → Prop} {ρ ρ' : Nat → Nat} {N N' : Nat} : ∀ {d : Nat} {x : AV} {v : Value}, x.closed d = true → VR w F ρ N x v → VR w' F' ρ' N' x v
  | 0, x, v, hc, _ => by cases hc
  | d + 1, x, v, hc, h => by
    have lists : ∀ {a : List AV} {vs : Array Value}, a.all (AV.closed d) = true → (∀ (j : Nat) x, a[j]? = some x → VR w F ρ N x (vs.getD j undef)) → ∀ (j : Nat) x, a[j]? = some x → VR w' F' ρ' N' x (vs.getD j undef) := fun {a vs} hl hval j x hx =>
      AV.closed_ok (List.all_eq_true.1 hl x (List.mem_of_getElem? hx)) (hval j x hx)
    unfold AV.closed at hc
    split at hc
    · exact .fv _ _ (FV.closed_ok hc h.fv_inv)
    · cases h with | agg _ vs hl hval => exact .agg _ vs hl (lists hc hval)
    · cases h with | tuple _ vs hl hval => exact .tuple _ vs hl (lists hc hval)
    · cases h with | ifb _ _ _ h1 h2 => exact .ifb _ _ _ (fun e => AV.closed_ok hc (h1 e)) h2
    · exact .junk _
    · cases hc

theorem AStep.callC {i d : Nat} {r : AV} {R : Nat → AV → Heap → Prop} (hc : r.closed 9 = true) (h : AOp P nt o N fr H R) (hR : ∀ N' r' H', R N' r' H' → r' = r ∧ H' = H) (hi : ops[i]? = some o) (hg : o.guard = none) (hd : o.dst = some d) (hn : Nat.ble (d + 1) nt = true)
    (k : ∀ N', N ≤ N' → AAny P nt ops Hr N0 fuel (listed.setIfInBounds i true) (fset fr0 d r) N' (fset fr d r) H K) : AStep P nt ops Hr N0 fuel listed fr0 N fr H K i := by
  intro c0 c a hN0 hs0 hN hs hduo Q hp hk
  have hdn : ∀ k, o.dst = some k → k < nt := fun k hk => by rw [hd] at hk; cases hk; exact Nat.le_of_ble_eq_true hn
  unfold wpOp
  rw [hi]
  have hw : Region.wanted o (yielded ops a.tmps) = true := by simp [Region.wanted, hg]
  simp only [hw, if_true]
  refine .inl (h c a hN hs _ _ fun v c' r' H' h1 h2 h3 h4 => ?_)
  obtain ⟨rfl, rfl⟩ := hR _ _ _ h4
  have hduo' := hduo.step hs0.st hs.st h2
  have e0 := hs0.set hs0.st (Step.refl c0) (AV.closed_ok hc h3) hdn
  have e1 := hs.set h1 h2 h3 hdn
  rw [hd] at e0 e1 ⊢
  exact ⟨hduo'.same, k c'.N (hN ▸ h2.names) c0 c' _ hN0 e0 rfl e1 hduo' Q hp fun c2 a2 fr2 H2 g1 g2 g3 g4 => hk c2 a2 fr2 H2 g1 (h2.trans g2) g3 g4⟩

theorem AStep.gcallC {i d j t : Nat} {oj : Oper} {want G : Bool} {x r : AV} {fr' : Frame} {R : Nat → AV → Heap → Prop} (hc : r.closed 9 = true) (hg : o.guard = some (j, want)) (hj : ops[j]? = some oj) (ht : oj.dst = some t) (hx : fget fr t = some x) (hG : guardOf want x = some G)
    (hs : Sub G fr fr') (h : G = true → AOp P nt o N fr' H R) (hR : ∀ N' r' H', R N' r' H' → r' = r ∧ H' = H) (hi : ops[i]? = some o) (hd : o.dst = some d) (hn : Nat.ble (d + 1) nt = true)
    (k : ∀ N', N ≤ N' → AAny P nt ops Hr N0 fuel (listed.setIfInBounds i true) (fset fr0 d (.ifb G r)) N' (fset fr d (.ifb G r)) H K) : AStep P nt ops Hr N0 fuel listed fr0 N fr H K i := by
  intro c0 c a hN0 hs0 hN hsit hduo Q hp hk
  have hdn : ∀ k, o.dst = some k → k < nt := fun k hk => by rw [hd] at hk; cases hk; exact Nat.le_of_ble_eq_true hn
  unfold wpOp
  rw [hi]
  have hget := hsit.fr.get hx
  have hgo := guard_ok hG hget.2
  have hw := Region.wanted_iff (ops := ops) (a := a) hg hj ht hget.1 rfl
  cases hGv : G with
  | true =>
    have hw' := hw.2 (hgo.1 hGv)
    simp only [hw', if_true]
    refine .inl (h hGv c a hN ⟨hsit.st, hs.ok hGv hsit.fr, hsit.size, hsit.defers⟩ _ _ fun v c' r' H' h1 h2 h3 h4 => ?_)
    obtain ⟨rfl, rfl⟩ := hR _ _ _ h4
    have h3' : VR c'.w c'.F c'.ρ c'.N (.ifb G r') v := .ifb _ _ _ (fun _ => h3) (fun h => by rw [hGv] at h; cases h)
    have h30 : VR c0.w c0.F c0.ρ c0.N (.ifb G r') v := .ifb _ _ _ (fun _ => AV.closed_ok hc h3) (fun h => by rw [hGv] at h; cases h)
    have e0 := hs0.set hs0.st (Step.refl c0) h30 hdn
    have e1 := hsit.set h1 h2 h3' hdn
    rw [hd] at e0 e1 ⊢
    have hduo' := hduo.step hs0.st hsit.st h2
    exact ⟨hduo'.same, k c'.N (hN ▸ h2.names) c0 c' _ hN0 e0 rfl e1 hduo' Q hp fun c2 a2 fr2 H2 g1 g2 g3 g4 => hk c2 a2 fr2 H2 g1 (h2.trans g2) g3 g4⟩
  | false =>
    have hw' : Region.wanted o (yielded ops a.tmps) = false := by
      cases hb : Region.wanted o (yielded ops a.tmps) with
      | true => exact absurd (hw.1 hb) (hgo.2 hGv)
      | false => rfl
    simp only [hw', Bool.false_eq_true, if_false]
    have h3' : ∀ {w F ρ M}, VR w F ρ M (.ifb G r) undef := fun {w F ρ M} => .ifb _ _ _ (fun h => by rw [hGv] at h; cases h) (fun _ => rfl)
    have e0 := hs0.set hs0.st (Step.refl c0) h3' hdn
    have e1 := hsit.set hsit.st (Step.refl c) h3' hdn
    rw [hd] at e0 e1 ⊢
    exact ⟨hduo.same, k N (Nat.le_refl _) c0 c _ hN0 e0 hN e1 hduo Q hp hk⟩

theorem AStep.pcallC {i d : Nat} {f : Operand} {args : Array Operand} {ts : Array TypeId} {g : FuncId} {first cap xs : List AV} {v : AV} (h : APure P g (first ++ xs ++ cap) v) (hc : v.closed 9 = true) (ho : o.op = .call { callee := .value f, args := args, argTypes := ts })
    (hf : aev fr f = some (.fn (.func g) first cap) ∨ (aev fr f = some (.fv (.fn (.func g))) ∧ first = [] ∧ cap = [])) (hx : args.toList.mapM (aev fr) = some xs) (hi : ops[i]? = some o) (hg : o.guard = none) (hd : o.dst = some d) (hn : Nat.ble (d + 1) nt = true)
    (k : ∀ N', N ≤ N' → AAny P nt ops Hr N0 fuel (listed.setIfInBounds i true) (fset fr0 d v) N' (fset fr d v) H K) : AStep P nt ops Hr N0 fuel listed fr0 N fr H K i :=
  AStep.callC hc (AOp.call ho hf hx (h.at N H)) (fun N' r' H' hr => ⟨hr.1, hr.2⟩) hi hg hd hn k

theorem AStep.gpcallC {i d j t : Nat} {oj : Oper} {want G : Bool} {x : AV} {fr' : Frame} {f : Operand} {args : Array Operand} {ts : Array TypeId} {g : FuncId} {first cap xs : List AV} {v : AV}
    (hg : o.guard = some (j, want)) (hj : ops[j]? = some oj) (ht : oj.dst = some t) (hx0 : fget fr t = some x) (hG : guardOf want x = some G) (hs : Sub G fr fr')
    (ho : o.op = .call { callee := .value f, args := args, argTypes := ts })
    (hf : aev fr' f = some (.fn (.func g) first cap) ∨ (aev fr' f = some (.fv (.fn (.func g))) ∧ first = [] ∧ cap = [])) (hx : args.toList.mapM (aev fr') = some xs) (h : G = true → APure P g (first ++ xs ++ cap) v) (hc : v.closed 9 = true)
    (hi : ops[i]? = some o) (hd : o.dst = some d) (hn : Nat.ble (d + 1) nt = true)
    (k : ∀ N', N ≤ N' → AAny P nt ops Hr N0 fuel (listed.setIfInBounds i true) (fset fr0 d (.ifb G v)) N' (fset fr d (.ifb G v)) H K) : AStep P nt ops Hr N0 fuel listed fr0 N fr H K i :=
  AStep.gcallC hc hg hj ht hx0 hG hs (fun hGt => AOp.call ho hf hx ((h hGt).at N H)) (fun N' r' H' hr => ⟨hr.1, hr.2⟩) hi hd hn k

theorem AWp.nilApp {cd : Code} {Q : Post} (h : AWp P nt cd N fr H Q) : AWp P nt cd N fr ([] ++ H) Q := h

/-- What else has come about is forgotten. -/
theorem ACall.forget {f : FuncId} {args : List AV} {R : Nat → AV → Heap → Prop} (h : ACall P f args N H fun N' r H' => ∃ H1 Hx, Take H1 H' Hx ∧ R N' r H1) : ACall P f args N H R := by
  refine ⟨h.1, fun c hN hst vs hv R' hk => h.2 c hN hst vs hv R' fun v c' r H' h1 h2 h3 h4 => ?_⟩
  obtain ⟨H1, Hx, ht, hr⟩ := h4
  obtain ⟨O1, O2, g1, g2, hp⟩ := ht.split h1.hr
  have hnd := hp.nodup_iff.1 h1.nodup
  exact hk v { c' with Own := O1 } r H1 ⟨g1, (List.nodup_append.1 hnd).1, fun b hb => h1.notF b (hp.mem_iff.2 (List.mem_append_left _ hb)), h1.inF⟩
    (h2.trans (Step.reown c' O1 fun b hb => hp.mem_iff.2 (List.mem_append_left _ hb))) h3 hr

end Go.Sl
