/- Operations that read memory, address it, cut it; as rules. No condition. -/
import Derived.Test.YtfbagkifhpnfjaaSl5
import Derived.Laws.Cells
namespace Go.Sl
open Go
set_option linter.unusedVariables false
set_option linter.unusedSimpArgs false
variable {P : Program}

/-- A variable's block. -/
abbrev vr (cs : List AV) : AObj := .arr cs.length 1 (fun _ => cs) true

def AV.plain : AV → Bool
  | .osl .. | .optr .. => false
  | _ => true

theorem CR.vr {w : World} {F : Nat → Prop} {ρ : Nat → Nat} {N : Nat} {x : AV} {v : Value} {B : List Nat} (h : CR w F ρ N x v B) (hp : x.plain = true) : VR w F ρ N x v ∧ B = [] := by
  cases h with
  | val _ _ h => exact ⟨h, rfl⟩
  | osl => simp [AV.plain] at hp
  | optr => simp [AV.plain] at hp

theorem Has.mem {n : Nat} {o : AObj} {H H' : Heap} (h : Has n o H H') {w : World} {F : Nat → Prop} {ρ : Nat → Nat} {N : Nat} {Own : List Nat} (hr : HR w F ρ N H Own) : ∃ B, OR w F ρ N n o B := by
  obtain ⟨B, _, ho, _⟩ := h.split hr
  exact ⟨B, ho⟩

theorem run_info {t : TypeId} {k : Nat} (h : (P.info? t).map (·.size) = some k) (w : World) : (Go.sizeOf t).run P w = .ok k w := by
  obtain ⟨i, hi, rfl⟩ := Option.map_eq_some_iff.1 h
  simp [Go.sizeOf, typeInfo, hi]

section
variable {tab : TypeId → Option TD} (T : TabOk P tab) {nt N : Nat} {o : Oper} {fr : Frame} {H : Heap}

theorem VR.ptr_inv {w : World} {F : Nat → Prop} {ρ : Nat → Nat} {N n sz i j : Nat} {v : Value} (h : VR w F ρ N (.ptr n sz i j) v) : v = .pointer (some ⟨ρ n, i * sz + j, none⟩) ∧ n < N := by
  cases h; exact ⟨rfl, by assumption⟩

theorem FR.fptr_inv {w : World} {F : Nat → Prop} {cs : List FV} {v : Value} (h : FR w F (.fptr cs) v) :
    ∃ (a : Addr) (vs : Nat → Value), v = .pointer (some a) ∧ (∀ (j : Nat) x, cs[j]? = some x → F a.block ∧ w.cell? (a.add j) = some (vs j)) ∧ ∀ j x, cs[j]? = some x → FR w F x (vs j) := by
  cases h with | fptr _ a vs h1 h2 => exact ⟨a, vs, rfl, h1, h2⟩

theorem FR.sl_inv {w : World} {F : Nat → Prop} {sz len : Nat} {g : Nat → List FV} {v : Value} (h : FR w F (.sl sz false len g) v) :
    ∃ (a : Addr) (c : Nat) (vs : Nat → Nat → Value), v = .slice (some a) len c ∧ len ≤ c ∧ (∀ i, i < len → (g i).length = sz) ∧
      (∀ i j x, i < len → (g i)[j]? = some x → F a.block ∧ w.cell? ((a.add (i * sz)).add j) = some (vs i j)) ∧ ∀ i j x, i < len → (g i)[j]? = some x → FR w F x (vs i j) := by
  cases h with | sl _ _ _ a c vs h1 h2 h3 h4 => exact ⟨a, c, vs, rfl, h1, h2, h3, h4⟩

theorem VR.sl_inv {w : World} {F : Nat → Prop} {ρ : Nat → Nat} {N n sz i len : Nat} {cap : Option Nat} {v : Value} (h : VR w F ρ N (.sl n sz i len cap) v) :
    ∃ a c, v = .slice (some a) len c ∧ n < N ∧ len ≤ c ∧ (∀ k, cap = some k → k = c) ∧ (0 < c → a = ⟨ρ n, i * sz, none⟩) := by
  cases h with | sl _ _ _ _ _ a c h1 h2 h3 h4 => exact ⟨a, c, rfl, h1, h2, h3, h4⟩

include T

theorem ARead.fieldAddr {t : TypeId} {td : TD} {x : Operand} {f : Nat} {fs : List FD} {d : FD} {n sz i j : Nat} (ho : o.op = .fieldAddr t x f) (ht : tab t = some td) (hk : td.kind = .struct fs) (hd : fs[f]? = some d)
    (hsz : d.size ≠ 0) (hx : aev fr x = some (.ptr n sz i j)) : ARead P nt o N fr H (.ptr n sz i (j + d.off)) := by
  intro c a hN hs
  obtain ⟨desc, _, hu, hkk⟩ := run_under T ht
  rw [hk] at hkk
  obtain ⟨fl, rfl, hm⟩ := kind_struct hkk
  obtain ⟨ff, hfl, h1, h2, h3, h4⟩ := kind_field hm hd
  obtain ⟨hv, hn⟩ := (aev_ok hs hx).ptr_inv
  refine ⟨.pointer (some ⟨c.ρ n, i * sz + (j + d.off), none⟩), fun w' hw' => ?_, .ptr _ _ _ _ hn⟩
  have h4' := fun w => run_info h4 w
  simp [execOp, ho, Instr.fieldAt, hu, hfl, hv, Instr.sureAddr, fieldPlace, h2, h4', hsz, h1, add_mk, Nat.add_assoc]

theorem ARead.fieldAddrF {t : TypeId} {td : TD} {x : Operand} {f : Nat} {fs : List FD} {d : FD} {cs : List FV} (ho : o.op = .fieldAddr t x f) (ht : tab t = some td) (hk : td.kind = .struct fs) (hd : fs[f]? = some d)
    (hsz : d.size ≠ 0) (hx : aev fr x = some (.fv (.fptr cs))) : ARead P nt o N fr H (.fv (.fptr (cs.drop d.off))) := by
  intro c a hN hs
  obtain ⟨desc, _, hu, hkk⟩ := run_under T ht
  rw [hk] at hkk
  obtain ⟨fl, rfl, hm⟩ := kind_struct hkk
  obtain ⟨ff, hfl, h1, h2, h3, h4⟩ := kind_field hm hd
  obtain ⟨b, vs, hv, hc, hval⟩ := (aev_ok hs hx).fv_inv.fptr_inv
  have h4' := fun w => run_info h4 w
  refine ⟨.pointer (some (b.add d.off)), fun w' hw' => ?_, .fv _ _ (.fptr _ _ (fun j => vs (d.off + j)) ?_ ?_)⟩
  · simp [execOp, ho, Instr.fieldAt, hu, hfl, hv, Instr.sureAddr, fieldPlace, h2, h4', hsz, h1]
  · intro j x hx
    rw [List.getElem?_drop] at hx
    rw [add_add, add_block]
    exact hc _ _ hx
  · intro j x hx
    rw [List.getElem?_drop] at hx
    exact hval _ _ hx

theorem ARead.indexAddrF {t e : TypeId} {td ed : TD} {x y : Operand} {sz len : Nat} {nil : Bool} {g : Nat → List FV} {k : IntKind} {m : Int} (ho : o.op = .indexAddr t x y) (ht : tab t = some td) (hk : td.kind = .slice e) (he : tab e = some ed)
    (hx : aev fr x = some (.fv (.sl sz nil len g))) (hy : aev fr y = some (.fv (.int k m))) (hsz : ed.size = sz) (h0 : 0 ≤ m) (h1 : m < len) : ARead P nt o N fr H (.fv (.fptr (g m.toNat))) := by
  intro c a hN hs
  cases nil with
  | true =>
    have hf := (aev_ok hs hx).fv_inv
    generalize a.eval x = v at hf
    cases hf
    omega
  | false =>
  obtain ⟨desc, _, hu, hkk⟩ := run_under T ht
  rw [hk] at hkk
  obtain rfl := kind_slice hkk
  obtain ⟨b, cap, vs, hv, hcap, hl, hc, hval⟩ := (aev_ok hs hx).fv_inv.sl_inv
  have hiv := (aev_ok hs hy).int_inv
  have hes := run_sizeOf' T he
  rw [hsz] at hes
  have hlt : m.toNat < len := by omega
  refine ⟨.pointer (some (b.add (m.toNat * sz))), fun w' hw' => ?_, .fv _ _ (.fptr _ _ (vs m.toNat) ?_ ?_)⟩
  · simp [execOp, ho, Instr.indexAt, hu, hv, hiv, asIntOf, h0, h1, hes]
  · intro j x hx; rw [add_block]; exact hc _ _ _ hlt hx
  · intro j x hx; exact hval _ _ _ hlt hx

theorem ARead.indexAddr {t e : TypeId} {td ed : TD} {x y : Operand} {n sz i len : Nat} {cap : Option Nat} {k : IntKind} {m : Int} (ho : o.op = .indexAddr t x y) (ht : tab t = some td) (hk : td.kind = .slice e) (he : tab e = some ed)
    (hx : aev fr x = some (.sl n sz i len cap)) (hy : aev fr y = some (.fv (.int k m))) (hsz : ed.size = sz) (h0 : 0 ≤ m) (h1 : m < len) : ARead P nt o N fr H (.ptr n sz (i + m.toNat) 0) := by
  intro c a hN hs
  obtain ⟨desc, _, hu, hkk⟩ := run_under T ht
  rw [hk] at hkk
  obtain rfl := kind_slice hkk
  obtain ⟨b, cp, hv, hn, hl, hcap, ha⟩ := (aev_ok hs hx).sl_inv
  have hiv := (aev_ok hs hy).int_inv
  have hes := run_sizeOf' T he
  rw [hsz] at hes
  have hb := ha (by omega)
  subst hb
  refine ⟨.pointer (some ⟨c.ρ n, (i + m.toNat) * sz + 0, none⟩), fun w' hw' => ?_, .ptr _ _ _ _ hn⟩
  have e1 : (⟨c.ρ n, i * sz, none⟩ : Addr).add (m.toNat * sz) = ⟨c.ρ n, (i + m.toNat) * sz + 0, none⟩ := by rw [add_mk, Nat.add_mul, Nat.add_zero]
  simp [execOp, ho, Instr.indexAt, hu, hv, hiv, asIntOf, h0, h1, hes, e1]

/-- An array in memory, element by element. -/
theorem ARead.indexAddrA {t e : TypeId} {td ed : TD} {x y : Operand} {n sz i len : Nat} {k : IntKind} {m : Int} (ho : o.op = .indexAddr t x y) (ht : tab t = some td) (hk : td.kind = .arr len e) (he : tab e = some ed)
    (hx : aev fr x = some (.ptr n sz i 0)) (hy : aev fr y = some (.fv (.int k m))) (hsz : ed.size = sz) (h0 : 0 ≤ m) (h1 : m < len) : ARead P nt o N fr H (.ptr n sz (i + m.toNat) 0) := by
  intro c a hN hs
  obtain ⟨desc, _, hu, hkk⟩ := run_under T ht
  rw [hk] at hkk
  obtain rfl := kind_arr hkk
  obtain ⟨hv, hn⟩ := (aev_ok hs hx).ptr_inv
  have hiv := (aev_ok hs hy).int_inv
  have hes := run_sizeOf' T he
  rw [hsz] at hes
  refine ⟨.pointer (some ⟨c.ρ n, (i + m.toNat) * sz + 0, none⟩), fun w' hw' => ?_, .ptr _ _ _ _ hn⟩
  have e1 : (⟨c.ρ n, i * sz, none⟩ : Addr).add (m.toNat * sz) = ⟨c.ρ n, (i + m.toNat) * sz, none⟩ := by rw [add_mk, Nat.add_mul]
  simp [execOp, ho, Instr.indexAt, hu, hv, hiv, asIntOf, h0, h1, hes, e1, Instr.sureAddr]

theorem ARead.loadF {t : TypeId} {td : TD} {x : Operand} {cs : List FV} {r : AV} (ho : o.op = .load t x) (ht : tab t = some td) (hx : aev fr x = some (.fv (.fptr cs)))
    (hr : apart td.kind.agg 0 td.size (cs.map .fv) = some r) : ARead P nt o N fr H r := by
  intro c a hN hs
  obtain ⟨b, vs, hv, hc0, hval⟩ := (aev_ok hs hx).fv_inv.fptr_inv
  have ha := run_isAgg' T ht
  have hsz := run_sizeOf' T ht
  have hc : ∀ w', Same c w' → ∀ (j : Nat) x, cs[j]? = some x → w'.cell? (b.add j) = some (vs j) := fun w' hw' j x hx => by
    obtain ⟨h1, h2⟩ := hc0 j x hx
    rw [World.cell?_of_block (w := c.w)]
    · exact h2
    · rw [add_block]; exact hw' _ (.inl h1)
  unfold apart at hr
  cases hagg : td.kind.agg with
  | false =>
    rw [hagg] at hr ha
    simp at hr
    cases cs with
    | nil => simp at hr
    | cons y ys =>
      simp at hr; subst hr
      have hb : b.add 0 = b := rfl
      refine ⟨vs 0, fun w' hw' => ?_, .fv _ _ (hval 0 y rfl)⟩
      have := hc w' hw' 0 y rfl
      rw [hb] at this
      simp [execOp, ho, hv, Instr.loadAt, Instr.sureAddr, loadVar, ha, this]
  | true =>
    rw [hagg] at hr ha
    simp only [if_true, List.length_map, Nat.zero_add, List.drop_zero] at hr
    split at hr <;> simp at hr
    subst hr
    rename_i hle
    refine ⟨.agg (List.map vs (List.range td.size)).toArray, fun w' hw' => ?_, .agg _ _ ?_ ?_⟩
    · have hl := run_loadCells (P := P) (w := w') b td.size vs (fun j hj => hc w' hw' j cs[j] (List.getElem?_eq_getElem (by omega)))
      simp [execOp, ho, hv, Instr.loadAt, Instr.sureAddr, loadVar, ha, hsz, hl]
    · simp; omega
    · intro j x hx
      have hj := len_of_get hx
      simp at hj
      rw [List.getElem?_take] at hx
      split at hx <;> simp at hx
      obtain ⟨y, hy, rfl⟩ := hx
      have : (List.map vs (List.range td.size)).toArray.getD j undef = vs j := by simp [Array.getD, show j < td.size by omega]
      rw [this]
      exact .fv _ _ (hval _ _ hy)

theorem run_loadOR {c : Cx} {n sz len i j : Nat} {g : Nat → List AV} {tight : Bool} {B : List Nat} (h : OR c.w c.F c.ρ c.N n (.arr sz len g tight) B) (hi : i < len) {t : TypeId} {td : TD} (ht : tab t = some td) {r : AV}
    (hr : apart td.kind.agg j td.size (g i) = some r) (hp : (bif td.kind.agg then (((g i).drop j).take td.size) else [r]).all AV.plain = true) :
    ∃ v, (∀ w' : World, w'.heap[c.ρ n]? = c.w.heap[c.ρ n]? → (loadVar t ⟨c.ρ n, i * sz + j, none⟩).run P w' = .ok v w') ∧ VR c.w c.F c.ρ c.N r v := by
  cases h with
  | arr _ _ _ _ cells ty fz vs Bs hn hb hfree hsize htt hsz hcell hval =>
    have ha := run_isAgg' T ht
    have hszz := run_sizeOf' T ht
    have hcl : ∀ w' : World, w'.heap[c.ρ n]? = c.w.heap[c.ρ n]? → ∀ k x, (g i)[k]? = some x → w'.cell? ⟨c.ρ n, i * sz + k, none⟩ = some (vs i k) := fun w' hw' k x hx => by
      simp only [World.cell?, hw', hb]; simpa using hcell i k x hi hx
    unfold apart at hr
    cases hagg : td.kind.agg with
    | false =>
      rw [hagg] at hr ha hp
      simp at hr hp
      have h1 := (hval i j r hi hr).vr hp
      exact ⟨vs i j, fun w' hw' => by simp [loadVar, ha, hcl w' hw' j r hr], h1.1⟩
    | true =>
      rw [hagg] at hr ha hp
      simp only [if_true] at hr
      split at hr <;> simp at hr
      subst hr
      rename_i hle
      refine ⟨.agg (List.map (fun k => vs i (j + k)) (List.range td.size)).toArray, fun w' hw' => ?_, .agg _ _ ?_ ?_⟩
      · have hl := run_loadCells (P := P) (w := w') ⟨c.ρ n, i * sz + j, none⟩ td.size (fun k => vs i (j + k)) (fun k hk => by
          rw [add_mk, Nat.add_assoc]; exact hcl w' hw' (j + k) _ (List.getElem?_eq_getElem (by omega)))
        simp [loadVar, ha, hszz, hl]
      · simp; omega
      · intro k x hx
        have hk := len_of_get hx
        simp at hk
        have hxm : x ∈ (((g i).drop j).take td.size) := List.mem_of_getElem? hx
        rw [List.getElem?_take] at hx
        split at hx <;> simp at hx
        have : (List.map (fun k => vs i (j + k)) (List.range td.size)).toArray.getD k undef = vs i (j + k) := by simp [Array.getD, show k < td.size by omega]
        rw [this]
        simp only [cond_true, List.all_eq_true] at hp
        exact ((hval i (j + k) x hi hx).vr (hp x hxm)).1

omit T in
theorem Has.own {c : Cx} {n : Nat} {ob : AObj} {H' : Heap} (hh : Has n ob H H') (hst : St c H) (hro : ob.isRow = false) : ∃ B, OR c.w c.F c.ρ c.N n ob B ∧ c.ρ n ∈ c.Own := by
  obtain ⟨B, Or, ho, _, hp⟩ := hh.split hst.hr
  exact ⟨B, ho, hp.mem_iff.2 (List.mem_append_left _ (ho.mem hro).1)⟩

theorem ARead.load {t : TypeId} {td : TD} {x : Operand} {n sz len i j : Nat} {g : Nat → List AV} {tight : Bool} {Hr : Heap} {r : AV} (ho : o.op = .load t x) (ht : tab t = some td) (hx : aev fr x = some (.ptr n sz i j))
    (hh : Has n (.arr sz len g tight) H Hr) (hi : i < len) (hr : apart td.kind.agg j td.size (g i) = some r) (hp : (bif td.kind.agg then (((g i).drop j).take td.size) else [r]).all AV.plain = true) : ARead P nt o N fr H r := by
  intro c a hN hs
  obtain ⟨hv, hn⟩ := (aev_ok hs hx).ptr_inv
  obtain ⟨B, hor, hmem⟩ := hh.own hs.st rfl
  obtain ⟨v, hrun, hvr⟩ := run_loadOR T hor hi ht hr hp
  refine ⟨v, fun w' hw' => ?_, hvr⟩
  have := hrun w' (hw' _ (.inr hmem))
  simp [execOp, ho, hv, Instr.loadAt, Instr.sureAddr, this]

theorem ARead.lenStr {x : Operand} {t : TypeId} {td : TD} {s : List UInt8} (ho : o.op = .call { callee := .builtin .len, args := #[x], argTypes := #[t] }) (ht : tab t = some td) (hk : td.kind = .str) (hx : aev fr x = some (.fv (.str s))) :
    ARead P nt o N fr H (.fv (.int .i64 s.length)) := by
  intro c a hN hs
  obtain ⟨desc, _, hu, hkk⟩ := run_under T ht
  rw [hk] at hkk
  obtain rfl := kind_str hkk
  have hv := (aev_ok hs hx).str_inv
  exact ⟨_, fun w' hw' => by simp [execOp, ho, resolve, invoke, builtin, Builtin.len_, hu, hv]; rfl, .fv _ _ (.int ..)⟩

/-- How many elements a slice has. -/
def aslen : AV → Option Nat
  | .fv (.sl _ _ len _) => some len
  | .fv (.sl0 _) => some 0
  | .sl _ _ _ len _ => some len
  | _ => none

omit T in
theorem aslen_ok {c : Cx} {x : AV} {n : Nat} {v : Value} (h : aslen x = some n) (hv : VR c.w c.F c.ρ c.N x v) : ∃ a cap, v = .slice a n cap ∧ n ≤ cap := by
  unfold aslen at h
  split at h <;> simp at h <;> subst h
  · cases hv.fv_inv with
    | slnil => exact ⟨_, _, rfl, Nat.le_refl _⟩
    | sl => exact ⟨_, _, rfl, by assumption⟩
  · cases hv.fv_inv; exact ⟨_, _, rfl, Nat.le_refl _⟩
  · obtain ⟨b, cp, rfl, hn, hl, _⟩ := hv.sl_inv
    exact ⟨_, _, rfl, hl⟩

theorem ARead.lenSl {x : Operand} {t e : TypeId} {td : TD} {y : AV} {n : Nat} (ho : o.op = .call { callee := .builtin .len, args := #[x], argTypes := #[t] }) (ht : tab t = some td) (hk : td.kind = .slice e) (hx : aev fr x = some y) (hn : aslen y = some n) :
    ARead P nt o N fr H (.fv (.int .i64 n)) := by
  intro c a hN hs
  obtain ⟨desc, _, hu, hkk⟩ := run_under T ht
  rw [hk] at hkk
  obtain rfl := kind_slice hkk
  obtain ⟨b, cap, hv, _⟩ := aslen_ok hn (aev_ok hs hx)
  exact ⟨_, fun w' hw' => by simp [execOp, ho, resolve, invoke, builtin, Builtin.len_, hu, hv]; rfl, .fv _ _ (.int ..)⟩

theorem ARead.lenArr {x : Operand} {t e : TypeId} {td : TD} {y : AV} {n : Nat} (ho : o.op = .call { callee := .builtin .len, args := #[x], argTypes := #[t] }) (ht : tab t = some td) (hk : td.kind = .arr n e) :
    ARead P nt o N fr H (.fv (.int .i64 n)) := by
  intro c a hN hs
  obtain ⟨desc, _, hu, hkk⟩ := run_under T ht
  rw [hk] at hkk
  obtain rfl := kind_arr hkk
  exact ⟨_, fun w' hw' => by simp [execOp, ho, resolve, invoke, builtin, Builtin.len_, hu]; rfl, .fv _ _ (.int ..)⟩

/-- A byte of a text. -/
theorem ARead.indexStr {t : TypeId} {td : TD} {x y : Operand} {s : List UInt8} {k : IntKind} {m : Int} (ho : o.op = .index t x y) (ht : tab t = some td) (hk : td.kind = .str) (hx : aev fr x = some (.fv (.str s)))
    (hy : aev fr y = some (.fv (.int k m))) (h0 : 0 ≤ m) (h1 : m < s.length) : ARead P nt o N fr H (.fv (.int .u8 (s.getD m.toNat 0).toNat)) := by
  intro c a hN hs
  obtain ⟨desc, _, hu, hkk⟩ := run_under T ht
  rw [hk] at hkk
  obtain rfl := kind_str hkk
  have hv := (aev_ok hs hx).str_inv
  have hiv := (aev_ok hs hy).int_inv
  refine ⟨.int .u8 (s.getD m.toNat 0).toNat, fun w' hw' => ?_, .fv _ _ (.int ..)⟩
  have hlt : m.toNat < s.length := by omega
  have hget : (⟨s.toArray⟩ : ByteArray)[m.toNat]? = some s[m.toNat] := by
    have : m.toNat < (⟨s.toArray⟩ : ByteArray).size := by simpa [ByteArray.size] using hlt
    rw [getElem?_pos (⟨s.toArray⟩ : ByteArray) m.toNat this]; rfl
  simp [execOp, ho, Instr.index, hu, hv, hiv, asIntOf, h0, hget, List.getD_eq_getElem?_getD, List.getElem?_eq_getElem hlt]

/-- An element of an array that is a value. -/
theorem ARead.indexArr {t e : TypeId} {td ed : TD} {x y : Operand} {len : Nat} {cs : List AV} {k : IntKind} {m : Int} {r : AV} (ho : o.op = .index t x y) (ht : tab t = some td) (hk : td.kind = .arr len e) (he : tab e = some ed)
    (hx : aev fr x = some (.agg cs)) (hy : aev fr y = some (.fv (.int k m))) (h0 : 0 ≤ m) (h1 : m < len) (hr : apart ed.kind.agg (m.toNat * ed.size) ed.size cs = some r) : ARead P nt o N fr H r := by
  intro c a hN hs
  obtain ⟨desc, _, hu, hkk⟩ := run_under T ht
  rw [hk] at hkk
  obtain rfl := kind_arr hkk
  obtain ⟨vs, hv, hl, hval⟩ := (aev_ok hs hx).agg_inv
  have hiv := (aev_ok hs hy).int_inv
  have hes := run_sizeOf' T he
  obtain ⟨v, hrun, hvr⟩ := run_part' T he hr hl hval
  refine ⟨v, fun w' hw' => ?_, hvr⟩
  simp [execOp, ho, Instr.index, hu, hv, hiv, asIntOf, h0, h1, hes, hrun]

end
end Go.Sl
