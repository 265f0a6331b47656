/- Append as a rule; rows that are made, frozen, opened, closed. No condition. -/
import Derived.Test.YtfbagkifhpnfjaaSl14
namespace Go.Sl
open Go
set_option linter.unusedVariables false
set_option linter.unusedSimpArgs false
variable {P : Program}

/-- What is told of the same world otherwise. -/
def Ghost (nt N : Nat) (fr : Frame) (H : Heap) (K : Nat → Frame → Heap → Prop) : Prop :=
  ∀ c a, c.N = N → Sit nt c a fr H → ∃ c' fr' H', c'.w = c.w ∧ Sit nt c' a fr' H' ∧ Step c c' ∧ K c'.N fr' H'

section
variable {nt N : Nat} {o : Oper} {fr : Frame} {H Hr : Heap} {cd : Code} {Q : Post} {ops : Array Oper} {rest : List Oper} {K : Nat → Frame → Heap → Prop}

theorem AWp.ghost (h : Ghost nt N fr H fun N' fr' H' => AWp P nt cd N' fr' H' Q) : AWp P nt cd N fr H Q := by
  intro c a hN hs Q' hk
  obtain ⟨c', fr', H', hw, hs', hst, h'⟩ := h c a hN hs
  rw [← hw]
  exact h' c' a rfl hs' Q' fun e c2 a2 fr2 H2 g1 g2 g3 => hk e c2 a2 fr2 H2 g1 (hst.trans g2) g3

theorem AOps.ghost (h : Ghost nt N fr H fun N' fr' H' => AOps P nt ops rest N' fr' H' K) : AOps P nt ops rest N fr H K := by
  intro i hi c a hN hs Q' hk
  obtain ⟨c', fr', H', hw, hs', hst, h'⟩ := h c a hN hs
  rw [← hw]
  exact h' i hi c' a rfl hs' Q' fun c2 a2 fr2 H2 g1 g2 g3 => hk c2 a2 fr2 H2 g1 (hst.trans g2) g3

/-- Only these slots are wanted any more. -/
theorem AOps.keep {fr' : Frame} (is : List Nat) (h : fpick fr is = some fr') (k : AOps P nt ops rest N fr' H K) : AOps P nt ops rest N fr H K :=
  fun i hi c a hN hs Q hk => k i hi c a hN ⟨hs.st, hs.fr.weak (fpick_mem h), hs.size, hs.defers⟩ Q hk

/-- Several slots hold this. -/
def fsame (fr : Frame) (x : AV) : List Nat → Prop
  | [] => True
  | k :: ks => fget fr k = some x ∧ fsame fr x ks

def fsetAll (fr : Frame) (x : AV) : List Nat → Frame
  | [] => fr
  | k :: ks => fset (fsetAll fr x ks) k x

theorem FrR.setAll {c c' : Cx} {a : Act} {fr : Frame} {x y : AV} (hf : FrR c a fr) (hf' : FrR c' a fr) (hy : ∀ v, VR c.w c.F c.ρ c.N x v → VR c'.w c'.F c'.ρ c'.N y v) : ∀ (ks : List Nat), fsame fr x ks → FrR c' a (fsetAll fr y ks)
  | [], _ => hf'
  | k :: ks, h => by
    intro p hp
    rcases List.mem_cons.1 hp with rfl | hp
    · obtain ⟨h1, h2⟩ := hf.get h.1
      exact ⟨h1, hy _ h2⟩
    · exact (FrR.setAll hf hf' hy ks h.2) p (fdel_mem hp).1

theorem ghost_to {c c' : Cx} {a : Act} {fr fr' : Frame} {H H' : Heap} (hs : Sit nt c a fr H) (hst : St c' H') (hstep : Step c c') (hw : c'.w = c.w) (hf : FrR c' a fr') (k : K c'.N fr' H') :
    ∃ c' fr' H', c'.w = c.w ∧ Sit nt c' a fr' H' ∧ Step c c' ∧ K c'.N fr' H' := ⟨c', fr', H', hw, ⟨hst, hf, hs.size, hs.defers⟩, hstep, k⟩

/-- A nil slice begins a row. -/
theorem Ghost.rowOf {sz0 sz : Nat} {g : Nat → List FV} (ks : List Nat) (hks : fsame fr (.fv (.sl sz0 true 0 g)) ks) (k : K (N + 2) (fsetAll fr (.row N true ([] : List (List AV)).length) ks) ((N, .row sz true []) :: H)) : Ghost nt N fr H K := by
  intro c a hN hs
  subst hN
  have hst : St ⟨c.w, c.F, c.ρ, c.N + 2, [] ++ c.Own⟩ ((c.N, .row sz true []) :: H) :=
    ⟨.cons _ _ _ _ _ (.rowNil _ _ (by simp)) (hs.st.hr.mono (fun b hb => ⟨hb, rfl⟩) (by simp) (fun _ _ => rfl) (fun _ _ => rfl)), hs.st.nodup, hs.st.notF, hs.st.inF⟩
  have hstep : Step c ⟨c.w, c.F, c.ρ, c.N + 2, [] ++ c.Own⟩ := ⟨rfl, rfl, rfl, Nat.le_refl _, fun _ _ _ => rfl, fun _ h => h, fun _ h => .inl h, fun _ h => .inl h, by simp, fun _ _ => rfl⟩
  refine ghost_to hs hst hstep rfl (hs.fr.setAll (hs.fr.step hs.st hstep) (fun v hv => ?_) ks hks) (k)
  have := hv.fv_inv
  cases this
  exact .rowNil _ (by simp)

/-- A row is frozen: nothing writes it any more. -/
theorem Ghost.freeze {α : Type} {n sz : Nat} {nil : Bool} {els : List (List AV)} (f : α → List FV) (L : List α) (d : α) (ks : List Nat) (hks : fsame fr (.row n nil els.length) ks) (hh : Has n (.row sz nil els) H Hr)
    (he : els = L.map fun a => (f a).map AV.fv) (k : K N (fsetAll fr (.fv (.sl sz nil L.length fun i => f (L.getD i d))) ks) Hr) : Ghost nt N fr H K := by
  intro c a hN hs
  subst hN
  obtain ⟨B, Or, hor, hr, hp⟩ := hh.split hs.st.hr
  have hnd := hp.nodup_iff.1 hs.st.nodup
  have hlen : els.length = L.length := by rw [he]; simp
  cases hor with
  | rowNil =>
    have hst : St ⟨c.w, c.F, c.ρ, c.N, Or⟩ Hr := ⟨hr, (List.nodup_append.1 hnd).2.1, fun b hb => hs.st.notF b (hp.mem_iff.2 (List.mem_append_right _ hb)), hs.st.inF⟩
    have hstep : Step c ⟨c.w, c.F, c.ρ, c.N, Or⟩ := Step.reown c Or fun b hb => hp.mem_iff.2 (List.mem_append_right _ hb)
    refine ghost_to hs hst hstep rfl (hs.fr.setAll (hs.fr.step hs.st hstep) (fun v hv => ?_) ks hks) (k)
    obtain ⟨_, ⟨_, _, rfl⟩ | ⟨h, _⟩⟩ := hv.row_inv
    · have e : L.length = 0 := by rw [← hlen]; rfl
      rw [e]
      exact .fv _ _ (.slnil ..)
    · cases h
  | row _ _ cells ty fz vs Bs hn hb hfree hle hsize hmax hsz hcell hval =>
    have hlt := lt_of_heap hb
    have hnot : ∀ b, b ∈ Or → b ≠ c.ρ n := fun b hb' e => (List.nodup_append.1 hnd).2.2 (c.ρ n) (by simp) b hb' e.symm
    have hstep : Step c ⟨c.w, fun b => c.F b ∨ b = c.ρ n, c.ρ, c.N, Or⟩ := ⟨rfl, rfl, rfl, Nat.le_refl _, fun _ _ _ => rfl, fun _ h => .inl h, fun b h => h.elim .inl fun e => .inr (.inl (by rw [e]; exact hp.mem_iff.2 (by simp))),
      fun b hb => .inl (hp.mem_iff.2 (List.mem_append_right _ hb)), Nat.le_refl _, fun _ _ => rfl⟩
    have hst : St ⟨c.w, fun b => c.F b ∨ b = c.ρ n, c.ρ, c.N, Or⟩ Hr := ⟨hr.mono (fun b hb => ⟨.inl hb, rfl⟩) (Nat.le_refl _) (fun _ _ => rfl) (fun _ _ => rfl), (List.nodup_append.1 hnd).2.1,
      fun b hb hF => hF.elim (hs.st.notF b (hp.mem_iff.2 (List.mem_append_right _ hb))) (hnot b hb), fun b hb => hb.elim (hs.st.inF b) fun e => by rw [e]; exact hlt⟩
    refine ghost_to hs hst hstep rfl (hs.fr.setAll (hs.fr.step hs.st hstep) (fun v hv => ?_) ks hks) (k)
    obtain ⟨_, ⟨h, _⟩ | ⟨_, rfl⟩⟩ := hv.row_inv
    · cases h
    have elt : ∀ i, i < L.length → els[i]? = some ((f (L.getD i d)).map AV.fv) := fun i hi => by rw [he, List.getElem?_map, List.getElem?_eq_getElem hi, List.getD_eq_getElem?_getD, List.getElem?_eq_getElem hi]; rfl
    rw [hlen]
    refine .fv _ _ (.sl sz L.length _ ⟨c.ρ n, 0, none⟩ (c.ρ (n + 1)) vs (by omega) (fun i hi => ?_) (fun i j x hi hx => ?_) (fun i j x hi hx => ?_))
    · have := hsz i _ (elt i hi); simpa using this
    · refine ⟨.inr (by simp [add_block]), ?_⟩
      rw [add_add, add_mk, Nat.zero_add]
      simp only [World.cell?, hb]
      exact hcell i j _ _ (elt i hi) (by rw [List.getElem?_map, hx]; rfl)
    · have := ((hval i j _ (.fv x) (elt i hi) (by rw [List.getElem?_map, hx]; rfl)).vr rfl).1.fv_inv
      exact this.mono fun b hb => ⟨.inl hb, rfl⟩

/-- A row is seen as an object. -/
theorem Ghost.openRow {n sz len : Nat} {els : List (List AV)} (g : Nat → List AV) (ks : List Nat) (hks : fsame fr (.row n false els.length) ks) (hh : Has n (.row sz false els) H Hr) (hl : els.length = len) (hg : ∀ i, i < len → els[i]? = some (g i))
    (k : ∀ cap, len ≤ cap → cap ≤ maxLen → K N (fsetAll fr (.sl n sz 0 len (some cap)) ks) ((n, .arr sz cap (fun i => bif Nat.blt i len then g i else List.replicate sz .junk) true) :: Hr)) : Ghost nt N fr H K := by
  intro c a hN hs
  subst hN
  subst hl
  obtain ⟨B, Or, hor, hr, hp⟩ := hh.split hs.st.hr
  have hnd := hp.nodup_iff.1 hs.st.nodup
  cases hor with
  | row _ _ cells ty fz vs Bs hn hb hfree hle hsize hmax hsz hcell hval =>
    let Bs' : Nat → Nat → List Nat := fun i j => if i < els.length then Bs i j else []
    have hsub : (gather sz (c.ρ (n + 1)) Bs').Sublist (gather sz els.length Bs) := gather_sub fun i j hi hj => by
      by_cases h : i < els.length
      · exact .inr ⟨h, if_pos h⟩
      · exact .inl (if_neg h)
    have hlt : ∀ i, Nat.blt i els.length = true ↔ i < els.length := fun i => by rw [Nat.blt_eq]
    have hor' : OR c.w c.F c.ρ c.N n (.arr sz (c.ρ (n + 1)) (fun i => bif Nat.blt i els.length then g i else List.replicate sz .junk) true) (c.ρ n :: gather sz (c.ρ (n + 1)) Bs') := by
      refine .arr n sz _ _ true cells ty fz (fun i j => cells.getD (i * sz + j) undef) Bs' (by omega) hb hfree (by omega) (fun _ => hsize) (fun i hi => ?_) (fun i j x hi hx => ?_) (fun i j x hi hx => ?_)
      · by_cases h : i < els.length
        · rw [(hlt i).2 h]; exact hsz i _ (hg i h)
        · have : Nat.blt i els.length = false := by cases hq : Nat.blt i els.length with | true => exact absurd ((hlt i).1 hq) h | false => rfl
          rw [this]; simp
      · have hj : j < sz := by
          have := len_of_get hx
          by_cases h : i < els.length
          · rw [(hlt i).2 h] at this; simp only [cond_true] at this; rw [hsz i _ (hg i h)] at this; exact this
          · have h' : Nat.blt i els.length = false := by cases hq : Nat.blt i els.length with | true => exact absurd ((hlt i).1 hq) h | false => rfl
            rw [h'] at this; simpa using this
        have hp' := place_lt hi hj
        rw [← hsize] at hp'
        rw [Array.getElem?_eq_getElem hp']; simp [Array.getD, hp']
      · by_cases h : i < els.length
        · have hx' : (g i)[j]? = some x := by rw [(hlt i).2 h] at hx; exact hx
          have e : Bs' i j = Bs i j := if_pos h
          have hc := hcell i j _ x (hg i h) hx'
          rw [e, Array.getD_eq_getD_getElem?, hc]
          exact hval i j _ x (hg i h) hx'
        · have h' : Nat.blt i els.length = false := by cases hq : Nat.blt i els.length with | true => exact absurd ((hlt i).1 hq) h | false => rfl
          have e : Bs' i j = [] := if_neg h
          rw [h'] at hx
          have := List.mem_of_getElem? hx
          simp only [cond_false, List.mem_replicate] at this
          rw [e, this.2]
          exact .val _ _ (.junk _)
    have hB : ∀ b, b ∈ (c.ρ n :: gather sz (c.ρ (n + 1)) Bs') ++ Or → b ∈ c.Own := fun b hb' => by
      refine hp.mem_iff.2 ?_
      rcases List.mem_append.1 hb' with hb' | hb'
      · rcases List.mem_cons.1 hb' with rfl | hb'
        · simp
        · exact List.mem_append_left _ (List.mem_cons_of_mem _ (hsub.subset hb'))
      · exact List.mem_append_right _ hb'
    have hst : St ⟨c.w, c.F, c.ρ, c.N, (c.ρ n :: gather sz (c.ρ (n + 1)) Bs') ++ Or⟩ ((n, .arr sz (c.ρ (n + 1)) (fun i => bif Nat.blt i els.length then g i else List.replicate sz .junk) true) :: Hr) := by
      refine ⟨.cons _ _ _ _ _ hor' hr, ?_, fun b hb' => hs.st.notF b (hB b hb'), hs.st.inF⟩
      exact hnd.sublist ((List.Sublist.cons_cons _ hsub).append (List.Sublist.refl _))
    have hstep := Step.reown c _ hB
    refine ghost_to hs hst hstep rfl (hs.fr.setAll (hs.fr.step hs.st hstep) (fun v hv => ?_) ks hks) (k (c.ρ (n + 1)) hle hmax)
    obtain ⟨_, ⟨h, _⟩ | ⟨_, rfl⟩⟩ := hv.row_inv
    · cases h
    · exact .sl _ _ _ _ _ _ _ (by show n < c.N; omega) hle (fun k hk => by simpa using hk.symm) (fun _ => by simp)

/-- A nil row is a nil slice. -/
theorem Ghost.openNil {n sz sz' : Nat} (ks : List Nat) (g : Nat → List FV) (hks : fsame fr (.row n true 0) ks) (hh : Has n (.row sz true []) H Hr) (k : K N (fsetAll fr (.fv (.sl sz' true 0 g)) ks) Hr) : Ghost nt N fr H K := by
  intro c a hN hs
  subst hN
  obtain ⟨B, Or, hor, hr, hp⟩ := hh.split hs.st.hr
  have hnd := hp.nodup_iff.1 hs.st.nodup
  have hst : St ⟨c.w, c.F, c.ρ, c.N, Or⟩ Hr := ⟨hr, (List.nodup_append.1 hnd).2.1, fun b hb => hs.st.notF b (hp.mem_iff.2 (List.mem_append_right _ hb)), hs.st.inF⟩
  have hstep : Step c ⟨c.w, c.F, c.ρ, c.N, Or⟩ := Step.reown c Or fun b hb => hp.mem_iff.2 (List.mem_append_right _ hb)
  refine ghost_to hs hst hstep rfl (hs.fr.setAll (hs.fr.step hs.st hstep) (fun v hv => ?_) ks hks) (k)
  obtain ⟨_, ⟨_, _, rfl⟩ | ⟨h, _⟩⟩ := hv.row_inv
  · exact .fv _ _ (.slnil ..)
  · cases h

/-- An object, and a slice that has all of it, are a row. -/
theorem Ghost.closeRow {n sz len cap : Nat} {g : Nat → List AV} (els : List (List AV)) (ks : List Nat) (hks : fsame fr (.sl n sz 0 len (some cap)) ks) (hh : Has n (.arr sz cap g true) H Hr) (hl : els.length = len) (hle : len ≤ cap) (h0 : 0 < cap) (hmax : cap ≤ maxLen)
    (hg : ∀ i, i < len → els[i]? = some (g i)) (k : K (N + 2) (fsetAll fr (.row N false els.length) ks) ((N, .row sz false els) :: Hr)) : Ghost nt N fr H K := by
  intro c a hN hs
  subst hN
  subst hl
  obtain ⟨B, Or, hor, hr, hp⟩ := hh.split hs.st.hr
  have hnd := hp.nodup_iff.1 hs.st.nodup
  cases hor with
  | arr _ _ _ _ cells ty fz vs Bs hn hb hfree hsize ht hsz hcell hval =>
    have hsub : (gather sz els.length Bs).Sublist (gather sz cap Bs) := gather_sub fun i j hi hj => .inr ⟨by omega, rfl⟩
    have gi : ∀ (i : Nat) l, els[i]? = some l → i < els.length ∧ l = g i := fun i l hl => by
      have hi := len_of_get hl
      rw [hg i hi] at hl
      exact ⟨hi, by simpa using hl.symm⟩
    have hor' : OR c.w c.F (upd2 c.ρ c.N (c.ρ n) cap) (c.N + 2) c.N (.row sz false els) (c.ρ n :: gather sz els.length Bs) := by
      have := OR.row (w := c.w) (F := c.F) (ρ := upd2 c.ρ c.N (c.ρ n) cap) (N := c.N + 2) c.N sz els cells ty fz vs Bs (by omega) (by rw [upd2_a]; exact hb) hfree (by rw [upd2_b]; exact hle) (by rw [upd2_b]; exact ht rfl) (by rw [upd2_b]; exact hmax)
        (fun i l hl => by obtain ⟨h1, rfl⟩ := gi i l hl; exact hsz i (by omega)) (fun i j l x hl hx => by obtain ⟨h1, rfl⟩ := gi i l hl; exact hcell i j x (by omega) hx)
        (fun i j l x hl hx => by obtain ⟨h1, rfl⟩ := gi i l hl; exact (hval i j x (by omega) hx).mono (fun b hb => ⟨hb, rfl⟩) (by omega) upd2_lt (fun _ _ => rfl))
      rw [upd2_a] at this; exact this
    have hB : ∀ b, b ∈ (c.ρ n :: gather sz els.length Bs) ++ Or → b ∈ c.Own := fun b hb' => by
      refine hp.mem_iff.2 ?_
      rcases List.mem_append.1 hb' with hb' | hb'
      · rcases List.mem_cons.1 hb' with rfl | hb'
        · simp
        · exact List.mem_append_left _ (List.mem_cons_of_mem _ (hsub.subset hb'))
      · exact List.mem_append_right _ hb'
    have hstep : Step c ⟨c.w, c.F, upd2 c.ρ c.N (c.ρ n) cap, c.N + 2, (c.ρ n :: gather sz els.length Bs) ++ Or⟩ :=
      ⟨rfl, rfl, rfl, Nat.le_refl _, fun _ _ _ => rfl, fun _ h => h, fun _ h => .inl h, fun b hb => .inl (hB b hb), by simp, upd2_lt⟩
    have hst : St ⟨c.w, c.F, upd2 c.ρ c.N (c.ρ n) cap, c.N + 2, (c.ρ n :: gather sz els.length Bs) ++ Or⟩ ((c.N, .row sz false els) :: Hr) := by
      refine ⟨.cons _ _ _ _ _ hor' (hr.mono (fun b hb => ⟨hb, rfl⟩) (by simp) upd2_lt (fun _ _ => rfl)), ?_, fun b hb' => hs.st.notF b (hB b hb'), hs.st.inF⟩
      exact hnd.sublist ((List.Sublist.cons_cons _ hsub).append (List.Sublist.refl _))
    refine ghost_to hs hst hstep rfl (hs.fr.setAll (hs.fr.step hs.st hstep) (fun v hv => ?_) ks hks) (k)
    obtain ⟨ad, c0, rfl, h1, h2, h3, h4⟩ := hv.sl_inv
    have e := h3 cap rfl
    subst e
    rw [h4 h0]
    have := VR.row (w := c.w) (F := c.F) (ρ := upd2 c.ρ c.N (c.ρ n) cap) (N := c.N + 2) c.N els.length (by omega)
    rw [upd2_a, upd2_b] at this
    simpa using this
end

section
variable {tab : TypeId → Option TD} (T : TabOk P tab) {nt N : Nat} {o : Oper} {fr : Frame} {H Hr : Heap}
include T

theorem ARead.lenRow {x : Operand} {t e : TypeId} {td : TD} {n len : Nat} {nil : Bool} (ho : o.op = .call { callee := .builtin .len, args := #[x], argTypes := #[t] }) (ht : tab t = some td) (hk : td.kind = .slice e) (hx : aev fr x = some (.row n nil len)) :
    ARead P nt o N fr H (.fv (.int .i64 len)) := by
  intro c a hN hs
  obtain ⟨desc, _, hu, hkk⟩ := run_under T ht
  rw [hk] at hkk
  obtain rfl := kind_slice hkk
  have hv := (aev_ok hs hx).row_inv.2
  refine ⟨.int .i64 len, fun w' hw' => ?_, .fv _ _ (.int ..)⟩
  rcases hv with ⟨_, rfl, hv⟩ | ⟨_, hv⟩
  · simp [execOp, ho, resolve, invoke, builtin, Builtin.len_, hu, hv]; rfl
  · simp [execOp, ho, resolve, invoke, builtin, Builtin.len_, hu, hv]; rfl

omit T in
theorem append_op {s x : Operand} {t u : TypeId} {c : Cx} {a : Act} {sv xv : Value} (ho : o.op = .call { callee := .builtin .append, args := #[s, x], argTypes := #[t, u] }) (hs : a.eval s = sv) (hx : a.eval x = xv) {w w' : World} {v : Value}
    (h : (Builtin.append_ #[t, u] o.type #[sv, xv]).run P w = .ok v w') : (execOp a.eval o).run P w = .ok (.value v) w' := by
  simp [execOp, ho, resolve, invoke, builtin, hs, hx, h]

/-- Append to a row. -/
theorem AOp.append {s x : Operand} {t e : TypeId} {td ed : TD} {ag : Bool} {zs : List Z} {n : Nat} {nil nil' : Bool} {els news els' : List (List AV)} (ho : o.op = .call { callee := .builtin .append, args := #[s, x], argTypes := #[t, t] })
    (ht : tab t = some td) (hk : td.kind = .slice e) (he : tab e = some ed) (hz : ed.zero = some (ag, zs)) (hzl : zs.length = ed.size) (hby : Nat.ble ed.bytes 65536 = true)
    (hs : aev fr s = some (.row n nil els.length)) (hh : Has n (.row ed.size nil els) H Hr) (hx : ASrc fr H x ed.size news) (hone : news.all (fun l => l.all AV.one) = true) (hneed : els.length + news.length ≤ 1073741824)
    (he' : els ++ news = els') (hn' : (nil && news.isEmpty) = nil') :
    AOp P nt o N fr H fun N' r H' => N' = N + 2 ∧ r = .row N nil' els'.length ∧ H' = (N, .row ed.size nil' els') :: Hr := by
  intro c a hN hsit next Q hkk
  subst hN
  subst he'
  subst hn'
  obtain ⟨nv, hsrc⟩ := hx.read hone hsit
  obtain ⟨v', c', hrun, h1, h2, h3, h4⟩ := append_core (ty := o.type) T ht hk ht (by rw [hk]) he hz hzl rfl hby hsit.st hh (aev_ok hsit hs) hsrc.toV hone hneed
  exact upon_value a next Q (append_op (c := c) ho rfl rfl hrun) (hkk _ c' _ _ h2 h3 h4 ⟨h1, rfl, rfl⟩)

/-- Append to a nil slice. -/
theorem AOp.appendNil {s x : Operand} {t e : TypeId} {td ed : TD} {ag : Bool} {zs : List Z} {sz0 : Nat} {g : Nat → List FV} {nil' : Bool} {news : List (List AV)} (ho : o.op = .call { callee := .builtin .append, args := #[s, x], argTypes := #[t, t] })
    (ht : tab t = some td) (hk : td.kind = .slice e) (he : tab e = some ed) (hz : ed.zero = some (ag, zs)) (hzl : zs.length = ed.size) (hby : Nat.ble ed.bytes 65536 = true)
    (hs : aev fr s = some (.fv (.sl sz0 true 0 g))) (hx : ASrc fr H x ed.size news) (hone : news.all (fun l => l.all AV.one) = true) (hneed : news.length ≤ 1073741824) (hn' : news.isEmpty = nil') :
    AOp P nt o N fr H fun N' r H' => N' = N + 4 ∧ r = .row (N + 2) nil' news.length ∧ H' = (N + 2, .row ed.size nil' news) :: H := by
  intro c a hN hsit next Q hkk
  subst hN
  subst hn'
  obtain ⟨nv, hsrc⟩ := hx.read hone hsit
  have hst : St ⟨c.w, c.F, c.ρ, c.N + 2, [] ++ c.Own⟩ ((c.N, .row ed.size true []) :: H) :=
    ⟨.cons _ _ _ _ _ (.rowNil _ _ (by simp)) (hsit.st.hr.mono (fun b hb => ⟨hb, rfl⟩) (by simp) (fun _ _ => rfl) (fun _ _ => rfl)), hsit.st.nodup, hsit.st.notF, hsit.st.inF⟩
  have hstep : Step c ⟨c.w, c.F, c.ρ, c.N + 2, [] ++ c.Own⟩ := ⟨rfl, rfl, rfl, Nat.le_refl _, fun _ _ _ => rfl, fun _ h => h, fun _ h => .inl h, fun _ h => .inl h, by simp, fun _ _ => rfl⟩
  have hv : VR c.w c.F c.ρ (c.N + 2) (.row c.N true ([] : List (List AV)).length) (a.eval s) := by
    have := (aev_ok hsit hs).fv_inv
    generalize a.eval s = v at this
    cases this
    exact .rowNil _ (by omega)
  have hsrc' : SrcS ⟨c.w, c.F, c.ρ, c.N + 2, [] ++ c.Own⟩ ed.size news (a.eval x) nv := ⟨hsrc.val, hsrc.len, hsrc.wide, fun i j l y h1 h2 => (hsrc.get i j l y h1 h2).step hsit.st hstep⟩
  obtain ⟨v', c', hrun, h1, h2, h3, h4⟩ := append_core (ty := o.type) T ht hk ht (by rw [hk]) he hz hzl rfl hby hst (Has.head _) hv hsrc'.toV hone (by simpa using hneed)
  exact upon_value a next Q (append_op (c := c) ho rfl rfl hrun) (hkk _ c' _ _ (by simpa using h2) (hstep.trans h3) (by simpa using h4) ⟨h1, rfl, rfl⟩)

omit T in
theorem str_src {c : Cx} {s : List UInt8} : SrcV P c 1 (s.map fun b => [AV.fv (.int .u8 b.toNat)]) (.string ⟨s.toArray⟩) (s.map fun b => .int .u8 b.toNat) := by
  have elt : ∀ (i : Nat) (l : List AV), (s.map fun b => [AV.fv (.int .u8 b.toNat)])[i]? = some l → ∃ b, s[i]? = some b ∧ l = [AV.fv (.int .u8 b.toNat)] := by
    intro i l hl
    rw [List.getElem?_map, Option.map_eq_some_iff] at hl
    obtain ⟨b, hb, rfl⟩ := hl
    exact ⟨b, hb, rfl⟩
  refine ⟨fun w' => ?_, fun w' _ => ?_, by simp, fun i l hl => ?_, fun i j l y hl hy => ?_⟩
  · simp [Builtin.lenOf, ByteArray.size]
  · have e : (⟨s.toArray⟩ : ByteArray).extract 0 s.length = ⟨s.toArray⟩ := by
      have := ByteArray.extract_zero_size (b := (⟨s.toArray⟩ : ByteArray))
      simpa [ByteArray.size] using this
    simp [Builtin.firstCells, e]
  · obtain ⟨b, _, rfl⟩ := elt i l hl; rfl
  · obtain ⟨b, hb, rfl⟩ := elt i l hl
    cases j with
    | zero =>
      simp at hy; subst hy
      simp only [Nat.mul_one, Nat.add_zero, List.getD_eq_getElem?_getD, List.getElem?_map, hb, Option.map_some, Option.getD_some]
      exact .fv _ _ (.int ..)
    | succ j => simp at hy

/-- A text appended to bytes. -/
theorem AOp.appendStr {s x : Operand} {t u e : TypeId} {td ud ed : TD} {ag : Bool} {zs : List Z} {n : Nat} {nil nil' : Bool} {str : List UInt8} {els els' : List (List AV)} (ho : o.op = .call { callee := .builtin .append, args := #[s, x], argTypes := #[t, u] })
    (ht : tab t = some td) (hk : td.kind = .slice e) (hut : tab u = some ud) (hku : ud.kind = .str) (he : tab e = some ed) (hz : ed.zero = some (ag, zs)) (hzl : zs.length = ed.size) (hes : ed.size = 1) (hby : Nat.ble ed.bytes 65536 = true)
    (hs : aev fr s = some (.row n nil els.length)) (hh : Has n (.row 1 nil els) H Hr) (hx : aev fr x = some (.fv (.str str))) (hneed : els.length + str.length ≤ 1073741824)
    (he' : els ++ str.map (fun b => [AV.fv (.int .u8 b.toNat)]) = els') (hn' : (nil && str.isEmpty) = nil') :
    AOp P nt o N fr H fun N' r H' => N' = N + 2 ∧ r = .row N nil' els'.length ∧ H' = (N, .row 1 nil' els') :: Hr := by
  intro c a hN hsit next Q hkk
  subst hN
  subst he'
  have hv := (aev_ok hsit hx).str_inv
  have hone : (str.map fun b => [AV.fv (.int .u8 b.toNat)]).all (fun l => l.all AV.one) = true := by simp [AV.one]
  obtain ⟨v', c', hrun, h1, h2, h3, h4⟩ := append_core (ty := o.type) T ht hk hut (by rw [hku]) he hz (by rw [hzl, hes]) hes hby hsit.st hh (aev_ok hsit hs) (str_src (P := P) (c := c) (s := str)) hone (by simpa using hneed)
  have e : (nil && (str.map fun b => [AV.fv (.int .u8 b.toNat)]).isEmpty) = nil' := by rw [← hn']; simp
  rw [e] at h2 h4
  exact upon_value a next Q (append_op (c := c) ho rfl hv hrun) (hkk _ c' _ _ h2 h3 h4 ⟨h1, rfl, rfl⟩)

end
end Go.Sl
