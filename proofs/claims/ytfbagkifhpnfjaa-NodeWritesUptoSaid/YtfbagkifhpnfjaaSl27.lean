/- An evaluator of code and calls on told values; that it tells the truth. No condition. -/
import Derived.Test.YtfbagkifhpnfjaaSl26
namespace Go.Sl
open Go
set_option linter.unusedVariables false
set_option linter.unusedSimpArgs false
variable {P : Program}

abbrev XSt := Exit × ESt

def loopE (body : Nat → Frame → EH → Option XSt) : Nat → Nat → Frame → EH → Option XSt
  | 0, _, _, _ => none
  | k + 1, N, fr, H => match body N fr H with
    | some (.normal, N', fr', H') => loopE body k N' fr' H'
    | r => r

def codeE (tab : TypeId → Option TD) (call : FuncId → List AV → Nat → EH → Option EOut) (nt lf : Nat) : Code → Nat → Frame → EH → Option XSt
  | .skip, N, fr, H => some (.normal, N, fr, H)
  | .label _, N, fr, H => some (.normal, N, fr, H)
  | .ret, N, fr, H => some (.ret, N, fr, H)
  | .exit id, N, fr, H => some (.exit id, N, fr, H)
  | .goto l, N, fr, H => some (.goto l, N, fr, H)
  | .region _ ops false, N, fr, H => match opsE tab call nt ops ops.toList N fr H with
    | some st => some (.normal, st)
    | none => none
  | .region _ ops true, N, fr, H => match drawnE tab call nt ops N fr H with
    | some st => some (.normal, st)
    | none => none
  | .seq a b, N, fr, H => match codeE tab call nt lf a N fr H with
    | some (.normal, N', fr', H') => codeE tab call nt lf b N' fr' H'
    | r => r
  | .cond (.tmp t) x y, N, fr, H => match fget fr t with
    | some (.fv (.bool b)) => bif b then codeE tab call nt lf x N fr H else codeE tab call nt lf y N fr H
    | _ => none
  | .block id x, N, fr, H => match codeE tab call nt lf x N fr H with
    | some (.exit id', st) => bif Nat.beq id' id then some (.normal, st) else some (.exit id', st)
    | r => r
  | .loop x, N, fr, H => loopE (codeE tab call nt lf x) lf N fr H
  | _, _, _, _ => none

def resE (tab : TypeId → Option TD) (fr : Frame) (H : EH) : List ResultVar → Option (List AV)
  | [] => some []
  | .tmp t :: rs => match fget fr t, resE tab fr H rs with
    | some x, some xs => some (x :: xs)
    | _, _ => none
  | .cell a t :: rs => match tab t, fget fr a with
    | some td, some (.ptr n sz i j) => match hget H n with
      | some (.vr cs, _) => match apart td.kind.agg (i * sz + j) td.size cs, resE tab fr H rs with
        | some r, some xs => ck (plainAll td.kind.agg (i * sz + j) td.size cs r) (some (r :: xs))
        | _, _ => none
      | _ => none
    | _, _ => none

def avNames : Nat → AV → List Nat
  | 0, _ => []
  | d + 1, x =>
    match x with
    | .ptr n _ _ _ => [n]
    | .sl n _ _ _ _ => [n]
    | .map n => [n]
    | .ref n => [n]
    | .fn _ a b => a.flatMap (avNames d) ++ b.flatMap (avNames d)
    | .iface _ x => avNames d x
    | .agg a => a.flatMap (avNames d)
    | .tuple a => a.flatMap (avNames d)
    | .row n _ _ => [n]
    | .ifb _ x => avNames d x
    | _ => []

def eoNames : EO → List Nat
  | .vr cs => cs.flatMap (avNames 100)
  | .row _ _ els => els.flatMap fun l => l.flatMap (avNames 100)

def reachE (H : EH) : Nat → List Nat → List Nat → List Nat
  | 0, _, seen => seen
  | _ + 1, [], seen => seen
  | k + 1, n :: todo, seen => bif memE seen n then reachE H k todo seen else
    match hget H n with
    | some (o, _) => reachE H k (eoNames o ++ todo) (n :: seen)
    | none => reachE H k todo seen

/-- What is left behind a call: nothing that is new and is not reached; the names as low as can be. -/
def gcE (N0 N' : Nat) (r : AV) (H : EH) : EOut :=
  match H.filter fun q => Nat.blt q.1 N0 with
  | old => bif avLt N0 100 r && ehLt N0 100 old then (N0, r, old) else
    match reachE H 1000 (avNames 100 r ++ old.flatMap fun q => eoNames q.2) [] with
    | seen => (N', r, H.filter fun q => Nat.blt q.1 N0 || memE seen q.1)

def callE (tab : TypeId → Option TD) (fnE : FuncId → Option Func) (lf : Nat) : Nat → FuncId → List AV → Nat → EH → Option EOut
  | 0, _, _, _, _ => none
  | k + 1, f, args, N, H => match fnE f with
    | none => none
    | some fn => match fn.body with
      | none => none
      | some cd => ck (Nat.ble args.length fn.ntmps) (match codeE tab (callE tab fnE lf k) fn.ntmps lf cd N (argFrame 0 args) H with
        | some (.normal, N', fr', H') => match resE tab fr' H' fn.results.toList with
          | some xs => some (gcE N N' (packR xs) H')
          | none => none
        | some (.ret, N', fr', H') => match resE tab fr' H' fn.results.toList with
          | some xs => some (gcE N N' (packR xs) H')
          | none => none
        | _ => none)

section
variable {tab : TypeId → Option TD} (T : TabOk P tab) {call : FuncId → List AV → Nat → EH → Option EOut} (hc : CallOk P call) (hm : P.follows .mixedOrders = true) {nt lf : Nat}

theorem loopE_ok {body : Code} {f : Nat → Frame → EH → Option XSt} (hf : ∀ (N : Nat) (fr : Frame) (H : EH) {e : Exit} {N' : Nat} {fr' : Frame} {H' : EH}, f N fr H = some (e, N', fr', H') → ∀ Q : Post, Q e N' fr' (eh H') → AWp P nt body N fr (eh H) Q)
    (k N : Nat) (fr : Frame) (H : EH) {e : Exit} {N' : Nat} {fr' : Frame} {H' : EH} (h : loopE f k N fr H = some (e, N', fr', H')) (Q : Post) (hq : Q e N' fr' (eh H')) : AWp P nt (.loop body) N fr (eh H) Q := by
  refine AWp.loop (α := Nat × Frame × EH) (fun x _ => x.2.1) (fun x _ => eh x.2.2) (fun x M => loopE f x.1 M x.2.1 x.2.2 = some (e, N', fr', H')) (fun x => x.1) (k, fr, H) h (fun p hp => hp) (take_all _) ?_
  rintro ⟨k, fr, H⟩ M _ hg
  dsimp only at hg ⊢
  cases k with
  | zero => cases hg
  | succ k =>
    unfold loopE at hg
    split at hg
    · rename_i N1 fr1 H1 hb
      refine hf M fr H hb _ ?_
      exact ⟨(k, fr1, H1), [], hg, fun p hp => hp, take_all _, Nat.lt_succ_self k⟩
    · rename_i r hne
      refine hf M fr H hg _ ?_
      cases e with
      | normal => exact absurd hg (hne _ _ _)
      | _ => exact hq

include T hc hm in
theorem codeE_ok : ∀ (cd : Code) (N : Nat) (fr : Frame) (H : EH) {e : Exit} {N' : Nat} {fr' : Frame} {H' : EH}, codeE tab call nt lf cd N fr H = some (e, N', fr', H') → ∀ Q : Post, Q e N' fr' (eh H') → AWp P nt cd N fr (eh H) Q
  | .skip, N, fr, H, e, N', fr', H', h, Q, hq => by simp only [codeE, Option.some.injEq, Prod.mk.injEq] at h; obtain ⟨rfl, rfl, rfl, rfl⟩ := h; exact AWp.skip hq
  | .label _, N, fr, H, e, N', fr', H', h, Q, hq => by simp only [codeE, Option.some.injEq, Prod.mk.injEq] at h; obtain ⟨rfl, rfl, rfl, rfl⟩ := h; exact AWp.label hq
  | .ret, N, fr, H, e, N', fr', H', h, Q, hq => by simp only [codeE, Option.some.injEq, Prod.mk.injEq] at h; obtain ⟨rfl, rfl, rfl, rfl⟩ := h; exact AWp.ret hq
  | .exit id, N, fr, H, e, N', fr', H', h, Q, hq => by simp only [codeE, Option.some.injEq, Prod.mk.injEq] at h; obtain ⟨rfl, rfl, rfl, rfl⟩ := h; exact AWp.exit hq
  | .goto l, N, fr, H, e, N', fr', H', h, Q, hq => by simp only [codeE, Option.some.injEq, Prod.mk.injEq] at h; obtain ⟨rfl, rfl, rfl, rfl⟩ := h; exact AWp.goto hq
  | .region id ops false, N, fr, H, e, N', fr', H', h, Q, hq => by
    simp only [codeE] at h
    split at h
    · rename_i st hs
      simp only [Option.some.injEq, Prod.mk.injEq] at h
      obtain ⟨rfl, rfl⟩ := h
      refine AWp.region ?_
      exact fun i hi c a hN hs' Q' hk => opsE_ok T hc _ _ _ _ hs i hi c a hN hs' Q' fun c' a' fr2 H2 g1 g2 g3 => hk c' a' fr2 H2 g1 g2 (by obtain ⟨e1, rfl, rfl⟩ := g3; rw [e1]; exact hq)
    · cases h
  | .region id ops true, N, fr, H, e, N', fr', H', h, Q, hq => by
    simp only [codeE] at h
    split at h
    · rename_i st hs
      simp only [Option.some.injEq, Prod.mk.injEq] at h
      obtain ⟨rfl, rfl⟩ := h
      exact drawnE_ok T hc hm hs hq
    · cases h
  | .seq a b, N, fr, H, e, N', fr', H', h, Q, hq => by
    simp only [codeE] at h
    refine AWp.seq ?_
    split at h
    · rename_i N1 fr1 H1 ha
      exact codeE_ok a N fr H ha _ (codeE_ok b N1 fr1 H1 h Q hq)
    · rename_i r hne
      refine codeE_ok a N fr H h _ ?_
      cases e with
      | normal => exact absurd h (hne _ _ _)
      | _ => exact hq
  | .cond (.tmp t) x y, N, fr, H, e, N', fr', H', h, Q, hq => by
    simp only [codeE] at h
    split at h
    · rename_i b hb
      refine AWp.cond hb (fun e1 => ?_) fun e1 => ?_
      · subst e1; exact codeE_ok x N fr H h Q hq
      · subst e1; exact codeE_ok y N fr H h Q hq
    · cases h
  | .block id x, N, fr, H, e, N', fr', H', h, Q, hq => by
    simp only [codeE] at h
    refine AWp.block ?_
    split at h
    · rename_i id' st hx
      refine codeE_ok x N fr H hx _ ?_
      cases hb : Nat.beq id' id with
      | true =>
        rw [hb] at h
        simp only [cond_true, Option.some.injEq, Prod.mk.injEq] at h
        obtain ⟨rfl, h⟩ := h
        subst h
        exact Or.inl (And.intro (Nat.eq_of_beq_eq_true hb) hq)
      | false =>
        rw [hb] at h
        simp only [cond_false, Option.some.injEq, Prod.mk.injEq] at h
        obtain ⟨rfl, h⟩ := h
        subst h
        exact Or.inr (And.intro (fun e1 => by rw [e1, Nat.beq_refl] at hb; cases hb) hq)
    · rename_i r hne
      refine codeE_ok x N fr H h _ ?_
      cases e with
      | exit id' => exact absurd h (hne _ _)
      | _ => exact hq
  | .loop x, N, fr, H, e, N', fr', H', h, Q, hq => by
    simp only [codeE] at h
    exact loopE_ok (fun M fr1 H1 => codeE_ok x M fr1 H1) _ _ _ _ h Q hq
  | .cond (.const _) _ _, _, _, _, _, _, _, _, h, _, _ => by simp [codeE] at h
  | .cond (.global _) _ _, _, _, _, _, _, _, _, h, _, _ => by simp [codeE] at h
  | .cond (.func _) _ _, _, _, _, _, _, _, _, h, _, _ => by simp [codeE] at h
  | .rangeFunc _ _ _ _, _, _, _, _, _, _, _, h, _, _ => by simp [codeE] at h
  | .scope _, _, _, _, _, _, _, _, h, _, _ => by simp [codeE] at h
  | .refuse _, _, _, _, _, _, _, _, h, _, _ => by simp [codeE] at h

theorem resE_ok {fr : Frame} {H : EH} : ∀ (rs : List ResultVar) {xs : List AV}, resE tab fr H rs = some xs → ARL tab fr (eh H) rs xs
  | [], xs, h => by cases h; exact .nil
  | .tmp t :: rs, xs, h => by
    unfold resE at h
    split at h
    · rename_i x ys hx hy; cases h; exact .tmp _ _ _ _ hx (resE_ok rs hy)
    · cases h
  | .cell a t :: rs, xs, h => by
    unfold resE at h
    split at h
    · rename_i td n sz i j ht ha
      split at h
      · rename_i cs Hr hg
        split at h
        · rename_i r ys hr hy
          obtain ⟨h1, h2⟩ := ck_some h; cases h2
          exact .cellC _ _ _ _ _ _ _ _ _ _ _ _ ha (hget_has hg) ht hr h1 (resE_ok rs hy)
        · cases h
      · cases h
    · cases h

def FnOk (P : Program) (fnE : FuncId → Option Func) : Prop := ∀ f fn, fnE f = some fn → P.funcs[f]? = some fn ∧ (fn.name == "runtime.NumGoroutine") = false

theorem take_filter (p : Nat → Bool) : ∀ (H : EH), Take (eh (H.filter fun q => p q.1)) (eh H) (eh (H.filter fun q => !p q.1))
  | [] => .nil []
  | (n, o) :: H => by
    have ih := take_filter p H
    cases hp : p n with
    | true =>
      rw [List.filter_cons_of_pos (by simpa using hp), List.filter_cons_of_neg (by simp [hp])]
      exact .cons _ _ _ _ _ _ (.head _) ih
    | false =>
      rw [List.filter_cons_of_neg (by simp [hp]), List.filter_cons_of_pos (by simp [hp])]
      exact ih.skip

theorem ACall.gc {f : FuncId} {args : List AV} {N N' N1 : Nat} {H : Heap} {r r1 : AV} {H' H1 : EH} (h : ACall P f args N H fun N2 r2 H2 => N2 = N' ∧ r2 = r ∧ H2 = eh H') (hg : gcE N N' r H' = (N1, r1, H1)) :
    ACall P f args N H fun N2 r2 H2 => N2 = N1 ∧ r2 = r1 ∧ H2 = eh H1 := by
  refine ⟨h.1, fun c hN hst vs hv R' hk => h.2 c hN hst vs hv R' fun v c' r2 H2 h1 h2 h3 h4 => ?_⟩
  obtain ⟨e1, rfl, rfl⟩ := h4
  have drop : ∀ p : Nat → Bool, ∃ O, St { c' with Own := O } (eh (H'.filter fun q => p q.1)) ∧ Step c { c' with Own := O } := fun p => by
    obtain ⟨O1, O2, g1, g2, hp⟩ := (take_filter p H').split h1.hr
    have hnd := hp.nodup_iff.1 h1.nodup
    exact ⟨O1, ⟨g1, (List.nodup_append.1 hnd).1, fun b hb => h1.notF b (hp.mem_iff.2 (List.mem_append_left _ hb)), h1.inF⟩, h2.trans (Step.reown c' O1 fun b hb => hp.mem_iff.2 (List.mem_append_left _ hb))⟩
  unfold gcE at hg
  dsimp only at hg
  cases hb : avLt N 100 r2 && ehLt N 100 (H'.filter fun q => Nat.blt q.1 N) with
  | true =>
    rw [hb] at hg
    simp only [cond_true, Prod.mk.injEq] at hg
    obtain ⟨rfl, rfl, rfl⟩ := hg
    rw [Bool.and_eq_true] at hb
    obtain ⟨O, g1, g2⟩ := drop fun n => Nat.blt n N
    refine hk v { c' with N := N, Own := O } _ _ ⟨ehLt_ok hb.2 g1.hr, g1.nodup, g1.notF, g1.inF⟩ ⟨g2.os, g2.tape, g2.output, g2.size, g2.keep, g2.grow, g2.newF, g2.own, by rw [hN]; exact Nat.le_refl _, g2.same⟩ (avLt_ok _ _ _ hb.1 h3) ⟨rfl, rfl, rfl⟩
  | false =>
    rw [hb] at hg
    simp only [cond_false, Prod.mk.injEq] at hg
    obtain ⟨rfl, rfl, rfl⟩ := hg
    obtain ⟨O, g1, g2⟩ := drop fun n => Nat.blt n N || memE (reachE H' 1000 (avNames 100 r2 ++ (H'.filter fun q => Nat.blt q.1 N).flatMap fun q => eoNames q.2) []) n
    exact hk v { c' with Own := O } _ _ g1 g2 h3 ⟨e1, rfl, rfl⟩

include T hm in
theorem callE_ok {fnE : FuncId → Option Func} (hfn : FnOk P fnE) : ∀ k, CallOk P (callE tab fnE lf k)
  | 0 => fun f args N H N' r H' h => by cases h
  | k + 1 => fun f args N H N' r H' h => by
    unfold callE at h
    split at h
    · cases h
    · rename_i fn hf
      split at h
      · cases h
      · rename_i cd hb
        obtain ⟨h1, h2⟩ := ck_some h
        obtain ⟨g1, g2⟩ := hfn f fn hf
        split at h2
        · rename_i N1 fr1 H1 hcd
          split at h2
          · rename_i xs hx
            refine ACall.gc ?_ (Option.some.inj h2)
            exact ACall.of_body T g1 g2 hb (Nat.le_of_ble_eq_true h1) (codeE_ok T (callE_ok hfn k) hm cd N _ H hcd _ ⟨.inl rfl, xs, resE_ok _ hx, rfl, rfl, rfl⟩)
          · cases h2
        · rename_i N1 fr1 H1 hcd
          split at h2
          · rename_i xs hx
            refine ACall.gc ?_ (Option.some.inj h2)
            exact ACall.of_body T g1 g2 hb (Nat.le_of_ble_eq_true h1) (codeE_ok T (callE_ok hfn k) hm cd N _ H hcd _ ⟨.inr rfl, xs, resE_ok _ hx, rfl, rfl, rfl⟩)
          · cases h2
        · cases h2

end
end Go.Sl
