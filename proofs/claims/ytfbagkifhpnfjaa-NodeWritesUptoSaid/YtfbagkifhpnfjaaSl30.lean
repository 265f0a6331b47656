/- The order of texts. No condition. -/
import Derived.Test.YtfbagkifhpnfjaaSl29
namespace Go.Sl
open Go

theorem bl_irr : ∀ (a : List UInt8), Op.bytesLess a a = false
  | [] => rfl
  | x :: a => by simp [Op.bytesLess, bl_irr a]

theorem bl_nil : ∀ (a : List UInt8), Op.bytesLess a [] = false
  | [] => rfl
  | _ :: _ => rfl

theorem u8_tri (a b : UInt8) : a < b ∨ a = b ∨ b < a := by
  rcases Nat.lt_trichotomy a.toNat b.toNat with h | h | h
  · exact .inl (UInt8.lt_iff_toNat_lt.2 h)
  · exact .inr (.inl (UInt8.toNat_inj.1 h))
  · exact .inr (.inr (UInt8.lt_iff_toNat_lt.2 h))

theorem bl_cons (x y : UInt8) (a b : List UInt8) : Op.bytesLess (x :: a) (y :: b) = true ↔ x < y ∨ (x = y ∧ Op.bytesLess a b = true) := by
  simp [Op.bytesLess]

theorem u8_irr {a : UInt8} (h : a < a) : False := Nat.lt_irrefl _ (UInt8.lt_iff_toNat_lt.1 h)
theorem u8_trans {a b c : UInt8} (h : a < b) (k : b < c) : a < c := UInt8.lt_iff_toNat_lt.2 (Nat.lt_trans (UInt8.lt_iff_toNat_lt.1 h) (UInt8.lt_iff_toNat_lt.1 k))

theorem bl_trans : ∀ {a b c : List UInt8}, Op.bytesLess a b = true → Op.bytesLess b c = true → Op.bytesLess a c = true
  | a, b, [], _, h => by rw [bl_nil] at h; cases h
  | a, [], _ :: _, h, _ => by rw [bl_nil] at h; cases h
  | [], _ :: _, _ :: _, _, _ => rfl
  | x :: a, y :: b, z :: c, h, k => by
    rw [bl_cons] at h k ⊢
    rcases h with h | ⟨rfl, h⟩
    · rcases k with k | ⟨rfl, k⟩
      · exact .inl (u8_trans h k)
      · exact .inl h
    · rcases k with k | ⟨rfl, k⟩
      · exact .inl k
      · exact .inr ⟨rfl, bl_trans h k⟩

theorem bl_total : ∀ (a b : List UInt8), Op.bytesLess a b = true ∨ a = b ∨ Op.bytesLess b a = true
  | [], [] => .inr (.inl rfl)
  | [], _ :: _ => .inl rfl
  | _ :: _, [] => .inr (.inr rfl)
  | x :: a, y :: b => by
    rw [bl_cons, bl_cons]
    rcases u8_tri x y with h | rfl | h
    · exact .inl (.inl h)
    · rcases bl_total a b with h | rfl | h
      · exact .inl (.inr ⟨rfl, h⟩)
      · exact .inr (.inl rfl)
      · exact .inr (.inr (.inr ⟨rfl, h⟩))
    · exact .inr (.inr (.inl h))

theorem bl_asymm {a b : List UInt8} (h : Op.bytesLess a b = true) : Op.bytesLess b a = false := by
  cases hb : Op.bytesLess b a with
  | false => rfl
  | true => have := bl_trans h hb; rw [bl_irr] at this; cases this

/-- At most. -/
abbrev ble (a b : List UInt8) : Bool := Op.bytesLess a b || decide (a = b)
theorem ble_refl (a : List UInt8) : ble a a = true := by simp [ble]
theorem ble_not {a b : List UInt8} : ble a b = !Op.bytesLess b a := by
  rcases bl_total a b with h | rfl | h
  · simp [ble, h, bl_asymm h]
  · simp [ble, bl_irr]
  · have h1 := bl_asymm h
    have h2 : a ≠ b := fun e => by subst e; rw [bl_irr] at h; cases h
    simp [ble, h, h1, h2]
theorem ble_trans {a b c : List UInt8} (h : ble a b = true) (k : ble b c = true) : ble a c = true := by
  simp only [ble, Bool.or_eq_true, decide_eq_true_eq] at *
  rcases h with h | rfl
  · rcases k with k | rfl
    · exact .inl (bl_trans h k)
    · exact .inl h
  · exact k
theorem bl_ble {a b c : List UInt8} (h : Op.bytesLess a b = true) (k : ble b c = true) : Op.bytesLess a c = true := by
  simp only [ble, Bool.or_eq_true, decide_eq_true_eq] at k
  rcases k with k | rfl
  · exact bl_trans h k
  · exact h
theorem ble_bl {a b c : List UInt8} (h : ble a b = true) (k : Op.bytesLess b c = true) : Op.bytesLess a c = true := by
  simp only [ble, Bool.or_eq_true, decide_eq_true_eq] at h
  rcases h with h | rfl
  · exact bl_trans h k
  · exact k
theorem bl_to_ble {a b : List UInt8} (h : Op.bytesLess a b = true) : ble a b = true := by simp [ble, h]

end Go.Sl
