/- The evaluator of operations that leave the world as it was tells the truth. No condition. -/
import Derived.Test.YtfbagkifhpnfjaaSl22
namespace Go.Sl
open Go
set_option linter.unusedVariables false
set_option linter.unusedSimpArgs false
variable {P : Program} {tab : TypeId → Option TD} (T : TabOk P tab) {nt N : Nat} {o : Oper} {fr : Frame} {H : EH} {r : AV}
include T

theorem eqE_ok {neg : Bool} {t t' : TypeId} {x y : Operand} {p q : AV} {b : Bool} (ho : o.op = .binOp (bif neg then .neq else .eql) t x y t') (hx : aev fr x = some p) (hy : aev fr y = some q) (h : eqE tab t y p q = some b) :
    ARead P nt o N fr (eh H) (.fv (.bool (bif neg then !b else b))) := by
  unfold eqE at h
  split at h
  · cases h
  · rename_i td ht
    split at h
    · rename_i hk
      exact ARead.eqNilIf T ho ht hk hx h
    · obtain ⟨h1, h2⟩ := ck_some h
      rw [Bool.and_eq_true] at h1
      refine ARead.eqT T ho ht (by simpa using h1.1) hx hy ?_ h2
      have := h1.2
      clear h h2
      revert hy
      cases q with
      | fv z => intro hy; cases z <;> first | rfl | cases this
      | _ => intro hy; first | rfl | cases this

theorem binE_ok {op : BinOp} {t t' : TypeId} {x y : Operand} (ho : o.op = .binOp op t x y t') (h : binE tab fr op t x y = some r) : ARead P nt o N fr (eh H) r := by
  unfold binE at h
  split at h
  · rename_i k m k' n hx hy
    split at h
    · obtain ⟨h1, h2⟩ := ck_some h; cases h2; exact ARead.shl ho hx hy (nn_ok h1)
    · obtain ⟨h1, h2⟩ := ck_some h; cases h2; exact ARead.shr ho hx hy (nn_ok h1)
    · obtain ⟨h1, h2⟩ := ck_some h; cases h2
      simp only [Bool.and_eq_true, decide_eq_true_eq, Bool.not_eq_true', decide_eq_false_iff_not] at h1
      obtain ⟨rfl, h1⟩ := h1
      exact ARead.quo ho hx hy h1
    · obtain ⟨h1, h2⟩ := ck_some h; cases h2
      simp only [Bool.and_eq_true, decide_eq_true_eq, Bool.not_eq_true', decide_eq_false_iff_not] at h1
      obtain ⟨rfl, h1⟩ := h1
      exact ARead.rem ho hx hy h1
    · obtain ⟨z, hz, rfl⟩ := Option.map_eq_some_iff.1 h
      exact ARead.binOp ho hx hy hz
  · rename_i a b hx hy
    split at h
    · obtain ⟨h1, h2⟩ := ck_some h; cases h2; exact ARead.cat ho hx hy (Nat.le_of_ble_eq_true h1)
    · obtain ⟨z, hz, rfl⟩ := Option.map_eq_some_iff.1 h
      exact ARead.binOp ho hx hy hz
  · rename_i p q _ _ hx hy
    split at h
    · obtain ⟨b, hb, rfl⟩ := Option.map_eq_some_iff.1 h
      exact eqE_ok T (neg := false) ho hx hy hb
    · obtain ⟨b, hb, rfl⟩ := Option.map_eq_some_iff.1 h
      exact eqE_ok T (neg := true) ho hx hy hb
    · cases h
  · cases h

theorem iaE_ok {t : TypeId} {x y : Operand} (ho : o.op = .indexAddr t x y) (h : iaE tab fr t x y = some r) : ARead P nt o N fr (eh H) r := by
  unfold iaE at h
  split at h
  · rename_i td p k m ht hx hy
    split at h
    · rename_i e hk
      split at h
      · rename_i ed sz nil len g he
        obtain ⟨h1, h2⟩ := ck_some h; cases h2
        simp only [Bool.and_eq_true] at h1
        obtain ⟨⟨h1, h2⟩, h3⟩ := h1
        exact ARead.indexAddrF T ho ht hk he hx hy (Nat.eq_of_beq_eq_true h1) (nn_ok h2) (lt_ok (nn_ok h2) h3)
      · rename_i ed n sz i len cap he
        obtain ⟨h1, h2⟩ := ck_some h; cases h2
        simp only [Bool.and_eq_true] at h1
        obtain ⟨⟨h1, h2⟩, h3⟩ := h1
        exact (ARead.indexAddr T ho ht hk he hx hy (Nat.eq_of_beq_eq_true h1) (nn_ok h2) (lt_ok (nn_ok h2) h3)).revalue fun w F ρ M v hv => hv.canon (by simp)
      · rename_i ed n len he
        obtain ⟨h1, h2⟩ := ck_some h; cases h2
        simp only [Bool.and_eq_true] at h1
        obtain ⟨h2, h3⟩ := h1
        exact (ARead.indexAddrRow T ho ht hk he hx hy rfl (nn_ok h2) (lt_ok (nn_ok h2) h3)).revalue fun w F ρ M v hv => hv.canon (by simp)
      · cases h
    · rename_i len e hk
      split at h
      · rename_i ed n sz i j he
        obtain ⟨h1, h2⟩ := ck_some h; cases h2
        simp only [Bool.and_eq_true] at h1
        obtain ⟨h2, h3⟩ := h1
        exact ARead.indexAddrAC T ho ht hk he hx hy (nn_ok h2) (lt_ok (nn_ok h2) h3)
      · cases h
    · cases h
  · cases h

theorem idxE_ok {t : TypeId} {x y : Operand} (ho : o.op = .index t x y) (h : idxE tab fr t x y = some r) : ARead P nt o N fr (eh H) r := by
  unfold idxE at h
  split at h
  · rename_i td p k m ht hx hy
    split at h
    · rename_i s hk
      obtain ⟨h1, h2⟩ := ck_some h; cases h2
      simp only [Bool.and_eq_true] at h1
      exact ARead.indexStr T ho ht hk hx hy (nn_ok h1.1) (lt_ok (nn_ok h1.1) h1.2)
    · rename_i len e cs hk
      split at h
      · rename_i ed he
        obtain ⟨h1, h2⟩ := ck_some h
        simp only [Bool.and_eq_true] at h1
        exact ARead.indexArr T ho ht hk he hx hy (nn_ok h1.1) (lt_ok (nn_ok h1.1) h1.2) h2
      · cases h
    · cases h
  · cases h

theorem loadE_ok {t : TypeId} {td : TD} {x : Operand} {p : AV} (ho : o.op = .load t x) (ht : tab t = some td) (hx : aev fr x = some p) (h : loadE H td p = some r) : ARead P nt o N fr (eh H) r := by
  unfold loadE at h
  split at h
  · exact ARead.loadF T ho ht hx h
  · rename_i n sz i j
    split at h
    · rename_i cs Hr hh
      split at h
      · rename_i r' hr
        obtain ⟨h1, h2⟩ := ck_some h; cases h2
        exact ARead.loadC T ho ht hx (hget_has hh) hr h1
      · cases h
    · rename_i s els Hr hh
      split at h
      · rename_i r' hr
        obtain ⟨h1, h2⟩ := ck_some h; cases h2
        rw [Bool.and_eq_true] at h1
        exact ARead.loadRowC T ho ht hx (by rw [Nat.mul_comm]; exact (Nat.div_add_mod' _ _).symm ▸ by rw [Nat.mul_comm]) (hget_has hh) (Nat.le_of_ble_eq_true h1.1) hr h1.2
      · cases h
    · cases h
  · cases h

theorem lenE_ok {t : TypeId} {x : Operand} (ho : o.op = .call { callee := .builtin .len, args := #[x], argTypes := #[t] }) (h : lenE tab fr t x = some r) : ARead P nt o N fr (eh H) r := by
  unfold lenE at h
  split at h
  · rename_i td p ht hx
    split at h
    · rename_i hk; cases h; exact ARead.lenStr T ho ht hk hx
    · rename_i hk; cases h; exact ARead.lenRow T ho ht hk hx
    · rename_i hk _
      split at h
      · rename_i n hn; cases h
        exact ARead.lenSl T ho ht hk hx hn
      · cases h
    · rename_i hk; cases h; exact ARead.lenArr T (y := .junk) ho ht hk
    · cases h
  · cases h

theorem sliceE_ok {t : TypeId} {x : Operand} {lo hi mx : Option Operand} (ho : o.op = .slice t x lo hi mx) (h : sliceE tab fr H t x lo hi mx = some r) : ARead P nt o N fr (eh H) r := by
  unfold sliceE at h
  split at h
  · rename_i td p ht hx
    split at h
    · rename_i hk
      split at h
      · split at h
        · rename_i l hh h1 h2
          obtain ⟨h3, h4⟩ := ck_some h; cases h4
          simp only [Bool.and_eq_true] at h3
          exact ARead.sliceStr T ho ht hk hx (bndE_ok h1) (bndE_ok h2) (Nat.le_of_ble_eq_true h3.1) (Nat.le_of_ble_eq_true h3.2)
        · cases h
      · cases h
    · rename_i m e hk
      split at h
      · rename_i ed n sz i j l hh he h1 h2
        obtain ⟨h3, h4⟩ := ck_some h; cases h4
        simp only [Bool.and_eq_true] at h3
        exact ARead.sliceArrC T ho ht hk he rfl hx (Nat.eq_of_beq_eq_true h3.2).symm (bndE_ok h1) (bndE_ok h2) (Nat.le_of_ble_eq_true h3.1.1) (Nat.le_of_ble_eq_true h3.1.2)
      · cases h
    · rename_i e hk
      split at h
      · cases h
      · rename_i ed he
        split at h
        · split at h
          · rename_i h1 h2
            cases h
            exact ARead.sliceNil T ho ht hk he hx (bndE_ok h1) (bndE_ok h2)
          · cases h
        · split at h
          · rename_i l hh h1 h2
            obtain ⟨h3, h4⟩ := ck_some h; cases h4
            simp only [Bool.and_eq_true] at h3
            exact ARead.sliceF0 T ho ht hk he (Nat.eq_of_beq_eq_true h3.2) hx (bndE_ok h1) (bndE_ok h2) (Nat.le_of_ble_eq_true h3.1.1) (Nat.le_of_ble_eq_true h3.1.2)
          · cases h
        · split at h
          · rename_i cap l hh h1 h2
            obtain ⟨h3, h4⟩ := ck_some h; cases h4
            simp only [Bool.and_eq_true, Bool.or_eq_true] at h3
            refine ARead.sliceO T ho ht hk he (Nat.eq_of_beq_eq_true h3.2) hx (bndE_ok h1) (bndE_ok h2) (Nat.le_of_ble_eq_true h3.1.1) ?_
            rcases h3.1.2 with h4 | h4
            · exact .inl (Nat.le_of_ble_eq_true h4)
            · split at h4
              · exact .inr ⟨_, rfl, Nat.le_of_ble_eq_true h4⟩
              · cases h4
          · cases h
        · split at h
          · rename_i h1 h2
            cases h
            exact ARead.sliceRowNil T ho ht hk he hx (bndE_ok h1) (bndE_ok h2)
          · cases h
        · split at h
          · rename_i l hh s els Hr h1 h2 hg
            obtain ⟨h3, h4⟩ := ck_some h; cases h4
            simp only [Bool.and_eq_true] at h3
            exact ARead.sliceRow T ho ht hk he (Nat.eq_of_beq_eq_true h3.1.2) hx (hget_has hg) (Nat.eq_of_beq_eq_true h3.2) (bndE_ok h1) (bndE_ok h2) (Nat.le_of_ble_eq_true h3.1.1.1) (Nat.le_of_ble_eq_true h3.1.1.2)
          · cases h
        · cases h
    · rename_i e mx hk
      split at h
      · rename_i ed hi he
        split at h
        · rename_i h1 h2 h3
          split at h
          · cases h; exact ARead.slice3z T ho ht hk he hx (bndE_ok h1) (bndE_ok h2) (bndE_ok h3)
          · cases h; exact ARead.slice3Row T ho ht hk he hx (bndE_ok h1) (bndE_ok h2) (bndE_ok h3)
          · cases h; exact ARead.slice3O T ho ht hk he hx (bndE_ok h1) (bndE_ok h2) (bndE_ok h3)
          · cases h
        · cases h
      · cases h
    · cases h
  · cases h

omit T in
theorem notIface {td : TD} (h : (match td.kind with | .iface => false | _ => true) = true) : td.kind ≠ .iface := by
  intro e; rw [e] at h; cases h

theorem rdE_ok (h : rdE tab fr H o.op = some r) : ARead P nt o N fr (eh H) r := by
  unfold rdE at h
  split at h
  · rename_i ho; exact ARead.move ho h
  · rename_i ho; exact ARead.assign ho h
  · rename_i ho
    split at h
    · rename_i hb; exact ARead.pick ho hb h
    · cases h
  · rename_i ho
    split at h
    · rename_i hx; exact ARead.extract ho hx h
    · cases h
  · rename_i ho; exact binE_ok T ho h
  · rename_i ho
    split at h
    · rename_i hx
      obtain ⟨z, hz, rfl⟩ := Option.map_eq_some_iff.1 h
      exact ARead.unOp ho hx hz
    · cases h
  · rename_i ho
    split at h
    · rename_i hs ht hx
      split at h
      · rename_i h1 h2
        obtain ⟨h3, h4⟩ := ck_some h; cases h4
        obtain rfl := of_decide_eq_true h3
        exact ARead.convInt T ho hs ht h1 h2 hx
      · cases h
    · cases h
  · rename_i ho
    split at h
    · rename_i ht
      obtain ⟨h1, h2⟩ := ck_some h
      obtain ⟨z, hz, rfl⟩ := Option.map_eq_some_iff.1 h2
      exact ARead.makeInterface T ho ht (notIface h1) hz
    · cases h
  · rename_i ho
    split at h
    · rename_i hx hy; cases h; exact ARead.makeFunc ho hx hy
    · cases h
  · rename_i ho
    split at h
    · rename_i ht hx
      split at h
      · rename_i hk
        split at h
        · rename_i hd
          split at h
          · rename_i hf; exact ARead.field T ho ht hk hd hf hx h
          · cases h
        · cases h
      · cases h
    · cases h
  · rename_i ho
    split at h
    · rename_i ht hx
      split at h
      · rename_i hk
        split at h
        · rename_i hd
          split at h
          · obtain ⟨h1, h2⟩ := ck_some h; cases h2
            exact ARead.fieldAddr T ho ht hk hd (by rintro e; rw [e] at h1; cases h1) hx
          · obtain ⟨h1, h2⟩ := ck_some h; cases h2
            exact ARead.fieldAddrF T ho ht hk hd (by rintro e; rw [e] at h1; cases h1) hx
          · cases h
        · cases h
      · cases h
    · cases h
  · rename_i ho; exact iaE_ok T ho h
  · rename_i ho; exact idxE_ok T ho h
  · rename_i ho
    split at h
    · rename_i ht hx; exact loadE_ok T ho ht hx h
    · cases h
  · rename_i ho; exact sliceE_ok T ho h
  · rename_i ho
    split at h
    · rename_i hx
      obtain ⟨h1, h2⟩ := ck_some h; cases h2
      exact ARead.nilCheck ho hx h1
    · cases h
  · rename_i ho
    split at h
    · rename_i ht
      split at h
      · rename_i hz hp
        obtain ⟨h1, h2⟩ := ck_some h
        rw [Bool.and_eq_true] at h1
        obtain ⟨cs, hc, rfl⟩ := Option.map_eq_some_iff.1 h2
        exact ARead.build T ho ht h1.1 h1.2 hz hp hc
      · cases h
    · cases h
  · rename_i ho
    split at h
    · rename_i ht hx
      split at h
      · rename_i z hz
        obtain ⟨h1, h2⟩ := ck_some h
        split at h2
        · split at h2
          · rename_i e; cases h2; subst e; exact ARead.assertYes T ho ht (notIface h1) hx
          · rename_i e; cases h2; exact ARead.assertNo T ho ht (notIface h1) (ag := z.1) (zs := z.2) hz hx e
        · cases h2; exact ARead.assertNil T ho ht (notIface h1) (ag := z.1) (zs := z.2) hz hx
        · cases h2
      · cases h
    · cases h
  · rename_i c ho
    split at h
    · rename_i h1 h2 h3
      refine lenE_ok T ?_ h
      rw [ho, ← h1, ← arr1 h2, ← arr1 h3]
    · rename_i h1 h2
      split at h
      · rename_i hx hy
        obtain ⟨z, hz, rfl⟩ := Option.map_eq_some_iff.1 h
        refine ARead.max (mx := true) (ts := c.argTypes) ?_ hx hy hz
        rw [ho]; show _ = Op.call { callee := .builtin .max, args := _, argTypes := _ }
        rw [← h1, ← arr2 h2]
      · cases h
    · rename_i h1 h2
      split at h
      · rename_i hx hy
        obtain ⟨z, hz, rfl⟩ := Option.map_eq_some_iff.1 h
        refine ARead.max (mx := false) (ts := c.argTypes) ?_ hx hy hz
        rw [ho]; show _ = Op.call { callee := .builtin .min, args := _, argTypes := _ }
        rw [← h1, ← arr2 h2]
      · cases h
    · cases h
  · cases h

end Go.Sl
