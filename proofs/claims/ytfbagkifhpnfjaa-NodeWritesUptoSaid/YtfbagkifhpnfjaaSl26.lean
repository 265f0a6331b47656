/- An evaluator of code on told values; that it tells the truth. No condition. -/
import Derived.Test.YtfbagkifhpnfjaaSl25
namespace Go.Sl
open Go
set_option linter.unusedVariables false
set_option linter.unusedSimpArgs false
variable {P : Program}

section
variable (tab : TypeId → Option TD) (call : FuncId → List AV → Nat → EH → Option EOut)

def opE (fr : Frame) (H : EH) (N : Nat) (op : Op) : Option EOut :=
  match rdE tab fr H op with
  | some r => some (N, r, H)
  | none => fxE tab fr H call N op

/-- Whether an operation is wanted. -/
def gdE (ops : Array Oper) (fr : Frame) (g : Option (Nat × Bool)) : Option Bool :=
  match g with
  | none => some true
  | some (j, want) => match ops[j]? with
    | some oj => match oj.dst with
      | some t => match fget fr t with
        | some (.fv (.bool b)) => some (b == want)
        | some (.ifb false _) => some false
        | _ => none
      | none => none
    | none => none

abbrev ESt := Nat × Frame × EH

def opsE (nt : Nat) (ops : Array Oper) : List Oper → Nat → Frame → EH → Option ESt
  | [], N, fr, H => some (N, fr, H)
  | o :: rest, N, fr, H =>
    match gdE ops fr o.guard with
    | some true => match opE tab call fr H N o.op with
      | some (N', r, H') => match o.dst with
        | some d => ck (Nat.blt d nt) (opsE nt ops rest N' (fset fr d r) H')
        | none => opsE nt ops rest N' fr H'
      | none => none
    | some false => match o.dst with
      | some d => ck (Nat.blt d nt) (opsE nt ops rest N (fset fr d (.ifb false .junk)) H)
      | none => opsE nt ops rest N fr H
    | none => none

end

section
variable {tab : TypeId → Option TD} (T : TabOk P tab) {call : FuncId → List AV → Nat → EH → Option EOut} (hc : CallOk P call) {nt N : Nat} {ops : Array Oper} {o : Oper} {rest : List Oper} {fr : Frame} {H : EH}
include T hc

theorem opE_ok {N' : Nat} {r : AV} {H' : EH} (h : opE tab call fr H N o.op = some (N', r, H')) : AOp P nt o N fr (eh H) fun N2 r2 H2 => N2 = N' ∧ r2 = r ∧ H2 = eh H' := by
  unfold opE at h
  split at h
  · rename_i r' hr; cases h
    exact AOp.of_read (rdE_ok T hr)
  · exact fxE_ok T hc h

omit T hc in
theorem gdE_ok {g : Option (Nat × Bool)} {b : Bool} (h : gdE ops fr g = some b) {c : Cx} {a : Act} {Hh : Heap} (hs : Sit nt c a fr Hh) (o : Oper) (ho : o.guard = g) : Region.wanted o (yielded ops a.tmps) = b := by
  unfold gdE at h
  split at h
  · cases h; simp [Region.wanted, ho]
  · rename_i j want
    split at h
    · rename_i oj hj
      split at h
      · rename_i t ht
        split at h
        · rename_i b' hb
          cases h
          have hv := hs.boolAt hb
          simp only [Region.wanted, ho, yielded, hj, Option.bind_some, ht, hv]
          cases b' <;> cases want <;> rfl
        · rename_i x hx
          cases h
          have hg := hs.fr.get hx
          have hv : a.tmps.getD t undef = undef := by
            generalize a.tmps.getD t undef = v at hg
            cases hg.2 with | ifb _ _ _ h1 h2 => exact h2 rfl
          have hv' := getD_at hg.1 hv
          simp only [Region.wanted, ho, yielded, hj, Option.bind_some, ht, hv']
          cases want <;> rfl
        · cases h
      · cases h
    · cases h

omit T hc in
theorem AOps.skipG {Hh : Heap} {K : Nat → Frame → Heap → Prop} (h : gdE ops fr o.guard = some false) (hd : ∀ i, o.dst = some i → i < nt) (hk : AOps P nt ops rest N (fput fr o.dst (.ifb false .junk)) Hh K) : AOps P nt ops (o :: rest) N fr Hh K := by
  intro i hi c a hN hs Q hq
  obtain ⟨ho, hrest⟩ := drop_succ hi
  have ho' : ops[i]? = some o := by rw [← ho]; simp
  simp only [List.length_cons, List.range'_succ, wpOps, ho']
  have hw := gdE_ok h hs o rfl
  rw [if_neg (by simp [hw])]
  exact hk (i + 1) hrest c (a.put o.dst undef) hN (hs.set hs.st (Step.refl c) (.ifb _ _ _ (fun h => by cases h) (fun _ => rfl)) hd) Q hq

omit T hc in
theorem AOps.doG {Hh : Heap} {K : Nat → Frame → Heap → Prop} {R : Nat → AV → Heap → Prop} (h : gdE ops fr o.guard = some true) (hd : ∀ i, o.dst = some i → i < nt) (ha : AOp P nt o N fr Hh R)
    (hk : ∀ N' r H', N ≤ N' → R N' r H' → AOps P nt ops rest N' (fput fr o.dst r) H' K) : AOps P nt ops (o :: rest) N fr Hh K := by
  intro i hi c a hN hs Q hq
  obtain ⟨ho, hrest⟩ := drop_succ hi
  have ho' : ops[i]? = some o := by rw [← ho]; simp
  simp only [List.length_cons, List.range'_succ, wpOps, ho']
  have hw := gdE_ok h hs o rfl
  rw [if_pos hw]
  refine .inl (ha c a hN hs _ _ fun v c' r H' h1 h2 h3 h4 => ?_)
  exact hk c'.N r H' (hN ▸ h2.names) h4 (i + 1) hrest c' (a.put o.dst v) rfl (hs.set h1 h2 h3 hd) Q fun c2 a2 fr2 H2 g1 g2 g3 => hq c2 a2 fr2 H2 g1 (h2.trans g2) g3

theorem opsE_ok : ∀ (rest : List Oper) (N : Nat) (fr : Frame) (H : EH) {N' : Nat} {fr' : Frame} {H' : EH}, opsE tab call nt ops rest N fr H = some (N', fr', H') →
    AOps P nt ops rest N fr (eh H) fun N2 fr2 H2 => N2 = N' ∧ fr2 = fr' ∧ H2 = eh H'
  | [], N, fr, H, N', fr', H', h => by cases h; exact AOps.nil ⟨rfl, rfl, rfl⟩
  | o :: rest, N, fr, H, N', fr', H', h => by
    unfold opsE at h
    split at h
    · rename_i hg
      split at h
      · rename_i N1 r H1 ho
        split at h
        · rename_i d hd
          obtain ⟨h1, h2⟩ := ck_some h
          refine AOps.doG hg (fun i hi => by rw [hd] at hi; cases hi; exact Nat.le_of_ble_eq_true h1) (opE_ok T hc ho) fun N2 r2 H2 _ e => ?_
          obtain ⟨rfl, rfl, rfl⟩ := e
          rw [hd]; exact opsE_ok rest _ _ _ h2
        · rename_i hd
          refine AOps.doG hg (fun i hi => by rw [hd] at hi; cases hi) (opE_ok T hc ho) fun N2 r2 H2 _ e => ?_
          obtain ⟨rfl, rfl, rfl⟩ := e
          rw [hd]; exact opsE_ok rest _ _ _ h
      · cases h
    · rename_i hg
      split at h
      · rename_i d hd
        obtain ⟨h1, h2⟩ := ck_some h
        refine AOps.skipG hg (fun i hi => by rw [hd] at hi; cases hi; exact Nat.le_of_ble_eq_true h1) ?_
        rw [hd]; exact opsE_ok rest _ _ _ h2
      · rename_i hd
        refine AOps.skipG hg (fun i hi => by rw [hd] at hi; cases hi) ?_
        rw [hd]; exact opsE_ok rest _ _ _ h
    · cases h
end

/-! ### Regions whose order is left open -/

section
variable (tab : TypeId → Option TD) (call : FuncId → List AV → Nat → EH → Option EOut)

/-- The objects that the loads of a region read, as far as they can be told ahead. -/
def seenE (H : EH) : List Oper → Frame → List Nat → List Nat
  | [], _, R => R
  | o :: rest, fr, R =>
    match rdE tab fr H o.op with
    | some r =>
      let R' := match o.op with
        | .load _ x => match aev fr x with
          | some (.ptr n _ _ _) => n :: R
          | _ => R
        | _ => R
      match o.dst with
      | some d => seenE H rest (fset fr d r) R'
      | none => seenE H rest fr R'
    | none => match o.dst with
      | some d => seenE H rest (fdel fr d) R
      | none => seenE H rest fr R

def memE (R : List Nat) (n : Nat) : Bool := R.any fun m => Nat.beq m n

def splitE (R : List Nat) : EH → EH × EH
  | [] => ([], [])
  | (n, o) :: H => match splitE R H with
    | (A, B) => bif memE R n then ((n, o) :: A, B) else (A, (n, o) :: B)

/-- What can be taken first: number, slot, value. -/
def takeE (nt : Nat) (ops : Array Oper) (listed : Array Bool) (fr0 : Frame) (H0 : EH) : List Nat → Option (Nat × Nat × AV)
  | [] => none
  | i :: rs =>
    match ops[i]? with
    | none => none
    | some o =>
      match o.dst, Region.free .any ops listed i, gdE ops fr0 o.guard with
      | some d, true, some true => match rdE tab fr0 H0 o.op with
        | some r => bif Nat.blt d nt then some (i, d, r) else none
        | none => takeE nt ops listed fr0 H0 rs
      | some d, true, some false => bif Nat.blt d nt then some (i, d, .ifb false .junk) else none
      | _, _, _ => takeE nt ops listed fr0 H0 rs

/-- A literal slice, frozen at once. -/
def litE (fr : Frame) (H : EH) (N : Nat) (op : Op) : Option EOut :=
  match op with
  | .buildSlice t len parts =>
    match elemE tab t, partsE fr parts with
    | some (_, ed, zs), some ps =>
      match afill (fun i => some (i * ed.size, ed.size)) (List.replicate len (zs.map fun z => AV.fv z.fv)).flatten ps with
      | some cs => match cs.mapM fvOf with
        | some fs => ck (Nat.beq fs.length (len * ed.size) && Nat.ble (len * ed.size) 16777216 && !Nat.beq (len * ed.size) 0 && ehLt N 100 H) (some (N, .fv (.sl ed.size false len fun i => (fs.drop (i * ed.size)).take ed.size), H))
        | none => none
      | none => none
    | _, _ => none
  | _ => none

def opDE (fr : Frame) (H : EH) (N : Nat) (op : Op) : Option EOut :=
  match litE tab fr H N op with
  | some r => some r
  | none => opE tab call fr H N op

def stLe (S' S : ESt) : Bool := Nat.beq S'.1 S.1 && frLe 100 S'.2.1 S.2.1 && ehLe 100 S'.2.2 S.2.2

/-- One that has come up is carried out. -/
def stepE (nt : Nat) (ops : Array Oper) (rec : Array Bool → Frame → Nat → Frame → EH → Option ESt) (i : Nat) (listed : Array Bool) (fr0 : Frame) (N : Nat) (fr : Frame) (H : EH) : Option ESt :=
  match ops[i]? with
  | some o => match gdE ops fr o.guard with
    | some true => match opDE tab call fr H N o.op with
      | some (N', r, H') => match o.dst with
        | some d => ck (Nat.blt d nt) (rec (listed.setIfInBounds i true) (fdel fr0 d) N' (fset fr d r) H')
        | none => rec (listed.setIfInBounds i true) fr0 N' fr H'
      | none => none
    | some false => match o.dst with
      | some d => ck (Nat.blt d nt) (rec (listed.setIfInBounds i true) (fdel fr0 d) N (fset fr d (.ifb false .junk)) H)
      | none => rec (listed.setIfInBounds i true) fr0 N fr H
    | none => none
  | none => none

def anyE (nt : Nat) (ops : Array Oper) (H0 : EH) : Nat → Array Bool → Frame → Nat → Frame → EH → Option ESt
  | 0, listed, fr0, N, fr, H => match Region.ready .any ops listed with
    | [] => some (N, fr, H)
    | _ => none
  | fuel + 1, listed, fr0, N, fr, H =>
    match Region.ready .any ops listed with
    | [] => some (N, fr, H)
    | rs => match takeE tab nt ops listed fr0 H0 rs with
      | some (i, d, r) => anyE nt ops H0 fuel (listed.setIfInBounds i true) (fset fr0 d r) N (fset fr d r) H
      | none => match rs with
        | [] => none
        | i :: more => match stepE tab call nt ops (anyE nt ops H0 fuel) i listed fr0 N fr H with
          | some S => ck (more.all fun j => match stepE tab call nt ops (anyE nt ops H0 fuel) j listed fr0 N fr H with
            | some S' => stLe S' S
            | none => false) (some S)
          | none => none

def drawnE1 (nt : Nat) (ops : Array Oper) (R : List Nat) (N : Nat) (fr : Frame) (H : EH) : Option ESt :=
  match splitE R H with
  | (H0, Hw) => match anyE tab call nt ops H0 ops.size (Array.replicate ops.size false) fr N fr Hw with
    | some (N', fr', H') => some (N', fr', H' ++ H0)
    | none => none

def drawnE (nt : Nat) (ops : Array Oper) (N : Nat) (fr : Frame) (H : EH) : Option ESt :=
  ck (Region.noSelect ops) (match drawnE1 tab call nt ops (seenE tab H ops.toList fr []) N fr H with
  | some r => some r
  | none => drawnE1 tab call nt ops [] N fr H)

end

section
variable {tab : TypeId → Option TD} (T : TabOk P tab) {call : FuncId → List AV → Nat → EH → Option EOut} (hc : CallOk P call) {nt N : Nat} {ops : Array Oper} {o : Oper} {rest : List Oper} {fr : Frame} {H : EH}

theorem Take.skip {x : Nat × AObj} : ∀ {L H H' : Heap}, Take L H H' → Take L (x :: H) (x :: H') := by
  intro L H H' h
  induction h with
  | nil H => exact .nil _
  | cons n o L H H1 H2 h t ih => exact .cons n o L _ _ _ (.tail x _ _ h) ih

theorem splitE_ok (R : List Nat) : ∀ (H : EH), Take (eh (splitE R H).1) (eh H) (eh (splitE R H).2)
  | [] => .nil []
  | (n, o) :: H => by
    have ih := splitE_ok R H
    simp only [splitE]
    cases hm : memE R n with
    | true => simp only [cond_true]; exact .cons _ _ _ _ _ _ (.head _) ih
    | false => simp only [cond_false]; exact ih.skip

theorem takeE_ok {listed : Array Bool} {fr0 : Frame} {H0 : EH} : ∀ (rs : List Nat) {i d : Nat} {r : AV}, takeE tab nt ops listed fr0 H0 rs = some (i, d, r) →
    ∃ o, ops[i]? = some o ∧ i ∈ rs ∧ o.dst = some d ∧ d < nt ∧ Region.free .any ops listed i = true ∧
      ((gdE ops fr0 o.guard = some true ∧ rdE tab fr0 H0 o.op = some r) ∨ (gdE ops fr0 o.guard = some false ∧ r = .ifb false .junk))
  | [], i, d, r, h => by cases h
  | j :: rs, i, d, r, h => by
    unfold takeE at h
    split at h
    · cases h
    · rename_i o ho
      split at h
      · rename_i d' hd hf hg
        split at h
        · rename_i r' hr
          cases hb : Nat.blt d' nt with
          | true =>
            rw [hb] at h; simp at h
            obtain ⟨rfl, rfl, rfl⟩ := h
            exact ⟨o, ho, by simp, hd, Nat.le_of_ble_eq_true hb, hf, .inl ⟨hg, hr⟩⟩
          | false => rw [hb] at h; cases h
        · obtain ⟨o', h1, h2, h3⟩ := takeE_ok rs h
          exact ⟨o', h1, List.mem_cons_of_mem _ h2, h3⟩
      · rename_i d' hd hf hg
        cases hb : Nat.blt d' nt with
        | true =>
          rw [hb] at h; simp at h
          obtain ⟨rfl, rfl, rfl⟩ := h
          exact ⟨o, ho, by simp, hd, Nat.le_of_ble_eq_true hb, hf, .inr ⟨hg, rfl⟩⟩
        | false => rw [hb] at h; cases h
      · obtain ⟨o', h1, h2, h3⟩ := takeE_ok rs h
        exact ⟨o', h1, List.mem_cons_of_mem _ h2, h3⟩

variable {N0 fuel : Nat} {listed : Array Bool} {fr0 : Frame} {Hh Hr : Heap} {K : Nat → Frame → Heap → Prop}

theorem AAny.takeG {d : Nat} {r : AV} (i : Nat) (hi : ops[i]? = some o) (hsel : Region.noSelect ops = true) (hf : Region.free .any ops listed i = true) (hr : (Region.ready .any ops listed).contains i = true) (hd : o.dst = some d) (hn : d < nt)
    (h : (gdE ops fr0 o.guard = some true ∧ ARead P nt o N0 fr0 Hr r) ∨ (gdE ops fr0 o.guard = some false ∧ r = .ifb false .junk))
    (k : AAny P nt ops Hr N0 fuel (listed.setIfInBounds i true) (fset fr0 d r) N (fset fr d r) Hh K) : AAny P nt ops Hr N0 (fuel + 1) listed fr0 N fr Hh K := by
  intro c0 c a hN0 hs0 hN hsit hduo Q hp hk
  have hdn : ∀ k, o.dst = some k → k < nt := fun k hk => by rw [hd] at hk; cases hk; exact hn
  have key : ∃ v, YieldsIf P ops (Same c0) o v a ∧ VR c0.w c0.F c0.ρ c0.N r v := by
    rcases h with ⟨hg, hrd⟩ | ⟨hg, rfl⟩
    · obtain ⟨v, hrun, hv⟩ := hrd c0 a hN0 hs0
      exact ⟨v, .inl ⟨gdE_ok hg hs0 o rfl, hrun⟩, hv⟩
    · exact ⟨undef, .inr ⟨gdE_ok hg hs0 o rfl, rfl⟩, .ifb _ _ _ (fun h => by cases h) (fun _ => rfl)⟩
  obtain ⟨v, hy, hv⟩ := key
  refine wpAnyH_take (v := v) hi hsel hf hr (fun ch a w hq => absurd hq (hp ch _ w)) hy hduo.same ?_
  have e1 := hs0.set hs0.st (Step.refl c0) hv hdn
  have e2 := hsit.set hsit.st (Step.refl c) (hduo.vr hv) hdn
  rw [hd] at e1 e2 ⊢
  exact k c0 c _ hN0 e1 hN e2 hduo Q hp hk

theorem AStep.doG {i : Nat} {R : Nat → AV → Heap → Prop} (hg : gdE ops fr o.guard = some true) (h : AOp P nt o N fr Hh R) (hi : ops[i]? = some o) (hd : ∀ k, o.dst = some k → k < nt)
    (k : ∀ N' r H', N ≤ N' → R N' r H' → AAny P nt ops Hr N0 fuel (listed.setIfInBounds i true) (fdelO fr0 o.dst) N' (fput fr o.dst r) H' K) : AStep P nt ops Hr N0 fuel listed fr0 N fr Hh K i := by
  intro c0 c a hN0 hs0 hN hs hduo Q hp hk
  unfold wpOp
  rw [hi]
  have hw := gdE_ok hg hs o rfl
  simp only [hw, if_true]
  refine .inl (h c a hN hs _ _ fun v c' r H' h1 h2 h3 h4 => ?_)
  have hduo' := hduo.step hs0.st hs.st h2
  refine ⟨hduo'.same, k c'.N r H' (hN ▸ h2.names) h4 c0 c' _ hN0 ⟨hs0.st, hs0.fr.del _ _ fun k hk => by rw [hs0.size]; exact hd k hk, by rw [size_put]; exact hs0.size, by rw [defers_put]; exact hs0.defers⟩ rfl (hs.set h1 h2 h3 hd) hduo' Q hp fun c2 a2 fr2 H2 g1 g2 g3 g4 => hk c2 a2 fr2 H2 g1 (h2.trans g2) g3 g4⟩

theorem AStep.skipG {i : Nat} (hg : gdE ops fr o.guard = some false) (hi : ops[i]? = some o) (hd : ∀ k, o.dst = some k → k < nt)
    (k : AAny P nt ops Hr N0 fuel (listed.setIfInBounds i true) (fdelO fr0 o.dst) N (fput fr o.dst (.ifb false .junk)) Hh K) : AStep P nt ops Hr N0 fuel listed fr0 N fr Hh K i := by
  intro c0 c a hN0 hs0 hN hs hduo Q hp hk
  unfold wpOp
  rw [hi]
  have hw := gdE_ok hg hs o rfl
  simp only [hw, Bool.false_eq_true, if_false]
  exact ⟨hduo.same, k c0 c _ hN0 ⟨hs0.st, hs0.fr.del _ _ fun k hk => by rw [hs0.size]; exact hd k hk, by rw [size_put]; exact hs0.size, by rw [defers_put]; exact hs0.defers⟩ hN
    (hs.set hs.st (Step.refl c) (.ifb _ _ _ (fun h => by cases h) (fun _ => rfl)) hd) hduo Q hp hk⟩

include T in
theorem litE_ok {N' : Nat} {r : AV} {H' : EH} (h : litE tab fr H N o.op = some (N', r, H')) : AOp P nt o N fr (eh H) fun N2 r2 H2 => N2 = N' ∧ r2 = r ∧ H2 = eh H' := by
  unfold litE at h
  split at h
  · rename_i ho
    split at h
    · rename_i e ed zs ps hel hp
      obtain ⟨td, ag, ht, hk, he, hz, hzl, hby⟩ := elemE_ok tab hel
      split at h
      · rename_i cs hf
        split at h
        · rename_i fs hfs
          obtain ⟨h1, h2⟩ := ck_some h; cases h2
          simp only [Bool.and_eq_true, Bool.not_eq_true'] at h1
          obtain ⟨⟨⟨h1, h2⟩, h3⟩, h4⟩ := h1
          exact AOp.buildSliceF T ho ht hk he hz hp hzl (fun w F ρ N' O hh => ehLt_ok h4 hh) (by rw [hf, fvOf_ok hfs]) (Nat.eq_of_beq_eq_true h1) (Nat.le_of_ble_eq_true h2) (by rintro e; rw [e] at h3; cases h3)
        · cases h
      · cases h
    · cases h
  · cases h

include T hc in
theorem opDE_ok {N' : Nat} {r : AV} {H' : EH} (h : opDE tab call fr H N o.op = some (N', r, H')) : AOp P nt o N fr (eh H) fun N2 r2 H2 => N2 = N' ∧ r2 = r ∧ H2 = eh H' := by
  unfold opDE at h
  split at h
  · rename_i hl; cases h; exact litE_ok T hl
  · exact opE_ok T hc h

/-- Behind a region: what the told state says. -/
def EK (nt : Nat) (S : ESt) : Nat → Frame → Heap → Prop := fun N2 fr2 H2 => N2 = S.1 ∧ Ent nt S.1 fr2 H2 S.2.1 (eh S.2.2)

theorem AAny.mono {K K' : Nat → Frame → Heap → Prop} (h : AAny P nt ops Hr N0 fuel listed fr0 N fr Hh K) (hk : ∀ N2 fr2 H2, K N2 fr2 H2 → K' N2 fr2 H2) : AAny P nt ops Hr N0 fuel listed fr0 N fr Hh K' :=
  fun c0 c a hN0 hs0 hN hs hduo Q hp hq => h c0 c a hN0 hs0 hN hs hduo Q hp fun c' a' fr' H' g1 g2 g3 g4 => hq c' a' fr' H' g1 g2 g3 (hk _ _ _ g4)

theorem AStep.mono {K K' : Nat → Frame → Heap → Prop} {i : Nat} (h : AStep P nt ops Hr N0 fuel listed fr0 N fr Hh K i) (hk : ∀ N2 fr2 H2, K N2 fr2 H2 → K' N2 fr2 H2) : AStep P nt ops Hr N0 fuel listed fr0 N fr Hh K' i :=
  fun c0 c a hN0 hs0 hN hs hduo Q hp hq => h c0 c a hN0 hs0 hN hs hduo Q hp fun c' a' fr' H' g1 g2 g3 g4 => hq c' a' fr' H' g1 g2 g3 (hk _ _ _ g4)

include T hc in
theorem stepE_ok {H0 : EH} {rec : Array Bool → Frame → Nat → Frame → EH → Option ESt} (hrec : ∀ (listed : Array Bool) (fr0 : Frame) (N : Nat) (fr : Frame) (H : EH) (S : ESt), rec listed fr0 N fr H = some S → AAny P nt ops (eh H0) N0 fuel listed fr0 N fr (eh H) (EK nt S))
    {i : Nat} {S : ESt} (h : stepE tab call nt ops rec i listed fr0 N fr H = some S) : AStep P nt ops (eh H0) N0 fuel listed fr0 N fr (eh H) (EK nt S) i := by
  unfold stepE at h
  split at h
  · rename_i o ho
    split at h
    · rename_i hg
      split at h
      · rename_i N1 r H1 hop
        split at h
        · rename_i d hd
          obtain ⟨h1, h2⟩ := ck_some h
          refine AStep.doG hg (opDE_ok T hc hop) ho (fun k hk => by rw [hd] at hk; cases hk; exact Nat.le_of_ble_eq_true h1) fun N2 r2 H2 _ e => ?_
          obtain ⟨rfl, rfl, rfl⟩ := e
          rw [hd]; exact hrec _ _ _ _ _ _ h2
        · rename_i hd
          refine AStep.doG hg (opDE_ok T hc hop) ho (fun k hk => by rw [hd] at hk; cases hk) fun N2 r2 H2 _ e => ?_
          obtain ⟨rfl, rfl, rfl⟩ := e
          rw [hd]; exact hrec _ _ _ _ _ _ h
      · cases h
    · rename_i hg
      split at h
      · rename_i d hd
        obtain ⟨h1, h2⟩ := ck_some h
        refine AStep.skipG hg ho (fun k hk => by rw [hd] at hk; cases hk; exact Nat.le_of_ble_eq_true h1) ?_
        rw [hd]; exact hrec _ _ _ _ _ _ h2
      · rename_i hd
        refine AStep.skipG hg ho (fun k hk => by rw [hd] at hk; cases hk) ?_
        rw [hd]; exact hrec _ _ _ _ _ _ h
    · cases h
  · cases h

include T hc in
theorem anyE_ok (hsel : Region.noSelect ops = true) {H0 : EH} : ∀ (fuel : Nat) (listed : Array Bool) (fr0 : Frame) (N : Nat) (fr : Frame) (H : EH) (S : ESt), anyE tab call nt ops H0 fuel listed fr0 N fr H = some S →
    AAny P nt ops (eh H0) N0 fuel listed fr0 N fr (eh H) (EK nt S)
  | 0, listed, fr0, N, fr, H, S, h => by
    unfold anyE at h
    split at h
    · rename_i hr; cases h; exact AAny.done hr ⟨rfl, Ent.refl _ _ _ _⟩
    · cases h
  | fuel + 1, listed, fr0, N, fr, H, S, h => by
    unfold anyE at h
    split at h
    · rename_i hr; cases h; exact AAny.done hr ⟨rfl, Ent.refl _ _ _ _⟩
    · rename_i rs hne
      split at h
      · rename_i i d r ht
        obtain ⟨o, ho, hm, hd, hlt, hf, hor⟩ := takeE_ok _ ht
        refine AAny.takeG i ho hsel hf (by rw [List.contains_iff_mem]; exact hm) hd hlt (hor.imp (fun h => ⟨h.1, rdE_ok T h.2⟩) id) (anyE_ok hsel fuel _ _ _ _ _ _ h)
      · split at h
        · cases h
        · rename_i i more hrs
          split at h
          · rename_i S1 h1
            obtain ⟨h2, h3⟩ := ck_some h
            cases h3
            refine AAny.all _ hrs (by simp) fun j hj => ?_
            rcases List.mem_cons.1 hj with rfl | hj
            · exact stepE_ok T hc (anyE_ok hsel fuel) h1
            · have h4 := List.all_eq_true.1 h2 j hj
              split at h4
              · rename_i S2 h5
                simp only [stLe, Bool.and_eq_true] at h4
                obtain ⟨⟨g1, g2⟩, g3⟩ := h4
                have g1 := Nat.eq_of_beq_eq_true g1
                refine (stepE_ok T hc (anyE_ok hsel fuel) h5).mono fun N2 fr2 H2 e => ⟨e.1.trans g1, ?_⟩
                have := e.2
                rw [g1] at this
                exact this.trans (Ent.of_le g2 g3)
              · cases h4
          · cases h

theorem eh_app (A B : EH) : eh (A ++ B) = eh A ++ eh B := by simp [eh]

theorem Ent.frame {fr' : Frame} {H H' : Heap} (h : Ent nt N fr H fr' H') (Hr : Heap) : Ent nt N fr (H ++ Hr) fr' (H' ++ Hr) := fun c a hN hs => by
  obtain ⟨O1, O2, h1, h2, ho⟩ := HR.unapp hs.st.hr
  have hnd := hs.st.nodup
  rw [ho] at hnd
  obtain ⟨n1, n2, n3⟩ := List.nodup_append.1 hnd
  have sub : ∀ b, b ∈ O1 → b ∈ c.Own := fun b hb => by rw [ho]; exact List.mem_append_left _ hb
  obtain ⟨O, k1, k2⟩ := h { c with Own := O1 } a hN ⟨⟨h1, n1, fun b hb => hs.st.notF b (sub b hb), hs.st.inF⟩, hs.fr, hs.size, hs.defers⟩
  refine ⟨O ++ O2, ⟨⟨k1.st.hr.app h2, List.nodup_append.2 ⟨k1.st.nodup, n2, fun b hb b' hb' e => n3 b (k2 b hb) b' hb' e⟩, fun b hb => ?_, hs.st.inF⟩, k1.fr, k1.size, k1.defers⟩, fun b hb => ?_⟩
  · rcases List.mem_append.1 hb with hb | hb
    · exact k1.st.notF b hb
    · exact hs.st.notF b (by rw [ho]; exact List.mem_append_right _ hb)
  · rcases List.mem_append.1 hb with hb | hb
    · exact sub b (k2 b hb)
    · rw [ho]; exact List.mem_append_right _ hb

theorem AWp.monoEnt {cd : Code} {H : Heap} {Q0 Q : Post} (h : AWp P nt cd N fr H Q0) (hk : ∀ e N2 fr2 H2, Q0 e N2 fr2 H2 → ∃ fr3 H3, Ent nt N2 fr2 H2 fr3 H3 ∧ Q e N2 fr3 H3) : AWp P nt cd N fr H Q :=
  fun c a hN hs Q' hq => h c a hN hs Q' fun e c' a' fr2 H2 g1 g2 g3 => by
    obtain ⟨fr3, H3, hE, hQ⟩ := hk e _ _ _ g3
    obtain ⟨O, k1, k2⟩ := hE c' a' rfl g1
    exact hq e { c' with Own := O } a' fr3 H3 k1 (g2.trans (Step.reown c' O k2)) hQ

theorem AWp.drawn' {N' : Nat} {fr' : Frame} {H' Hw H : Heap} {id : Nat} {Q : Post} (hm : P.follows .mixedOrders = true) (ht : Take Hr H Hw)
    (h : AAny P nt ops Hr N ops.size (Array.replicate ops.size false) fr N fr Hw fun N2 fr2 H2 => N2 = N' ∧ Ent nt N' fr2 H2 fr' H') (hq : Q .normal N' fr' (H' ++ Hr)) : AWp P nt (.region id ops true) N fr H Q := by
  refine AWp.monoEnt (Q0 := fun e N2 fr2 H2 => e = .normal ∧ ∃ H1, H2 = H1 ++ Hr ∧ N2 = N' ∧ Ent nt N' fr2 H1 fr' H') (AWp.drawn hm ht (h.mono fun N2 fr2 H2 e => ⟨rfl, H2, rfl, e.1, e.2⟩)) ?_
  rintro e N2 fr2 H2 ⟨rfl, H1, rfl, rfl, hE⟩
  exact ⟨fr', H' ++ Hr, hE.frame Hr, hq⟩

include T hc in
theorem drawnE1_ok (hm : P.follows .mixedOrders = true) (hsel : Region.noSelect ops = true) {R : List Nat} {N' : Nat} {fr' : Frame} {H' : EH} {id : Nat} {Q : Post} (h : drawnE1 tab call nt ops R N fr H = some (N', fr', H')) (hq : Q .normal N' fr' (eh H')) :
    AWp P nt (.region id ops true) N fr (eh H) Q := by
  unfold drawnE1 at h
  split at h
  rename_i H0 Hw hsp
  split at h
  · rename_i N1 fr1 H1 ha
    cases h
    have hs := splitE_ok R H
    rw [hsp] at hs
    rw [eh_app] at hq
    refine AWp.drawn' hm hs ?_ hq
    exact anyE_ok (N0 := N) T hc hsel _ _ _ _ _ _ _ ha
  · cases h

include T hc in
theorem drawnE_ok (hm : P.follows .mixedOrders = true) {N' : Nat} {fr' : Frame} {H' : EH} {id : Nat} {Q : Post} (h : drawnE tab call nt ops N fr H = some (N', fr', H')) (hq : Q .normal N' fr' (eh H')) :
    AWp P nt (.region id ops true) N fr (eh H) Q := by
  unfold drawnE at h
  obtain ⟨hsel, h⟩ := ck_some h
  split at h
  · rename_i r hr
    cases h
    exact drawnE1_ok T hc hm hsel hr hq
  · exact drawnE1_ok T hc hm hsel h hq

end
end Go.Sl
