/- Cutting texts and slices; equality; the lesser and the greater; as rules. No condition. -/
import Derived.Test.YtfbagkifhpnfjaaSl6
import Derived.Laws.StructEq
namespace Go.Sl
open Go
set_option linter.unusedVariables false
set_option linter.unusedSimpArgs false
variable {P : Program}

/-- A bound of a cut: what stands there, or what stands for nothing. -/
def ABnd (fr : Frame) : Option Operand → Nat → Nat → Prop
  | none, d, l => l = d
  | some x, _, l => ∃ k m, aev fr x = some (.fv (.int k m)) ∧ 0 ≤ m ∧ l = m.toNat

section
variable {tab : TypeId → Option TD} (T : TabOk P tab) {nt N : Nat} {o : Oper} {fr : Frame} {H : Heap}

theorem bnd_ok {c : Cx} {a : Act} (hs : Sit nt c a fr H) {x : Option Operand} {d l : Nat} (h : ABnd fr x d l) :
    (x = none ∧ l = d) ∨ ∃ y k, x = some y ∧ a.eval y = .int k l := by
  cases x with
  | none => exact .inl ⟨rfl, h⟩
  | some y =>
    obtain ⟨k, m, h1, h2, rfl⟩ := h
    refine .inr ⟨y, k, rfl, ?_⟩
    rw [(aev_ok hs h1).int_inv]
    congr 1; omega

theorem run_bounds {c : Cx} {a : Act} (hs : Sit nt c a fr H) {isS : Bool} {len cap : Nat} {lo hi : Option Operand} {l h : Nat} (h1 : ABnd fr lo 0 l) (h2 : ABnd fr hi len h) (hl : l ≤ h) (hh : h ≤ cap) (w : World) :
    (Instr.sliceBounds isS len cap (lo.map a.eval) (hi.map a.eval) none).run P w = .ok (l, h, cap) w := by
  rcases bnd_ok hs h1 with ⟨rfl, rfl⟩ | ⟨y, k, rfl, hy⟩ <;> rcases bnd_ok hs h2 with ⟨rfl, rfl⟩ | ⟨z, k', rfl, hz⟩ <;>
    simp [Instr.sliceBounds, Instr.sliceBound, asIntOf, *]

theorem run_bounds3 {c : Cx} {a : Act} (hs : Sit nt c a fr H) {isS : Bool} {len cap : Nat} {lo : Option Operand} {hi mx : Operand} {l h m : Nat} (h1 : ABnd fr lo 0 l) (h2 : ABnd fr (some hi) len h) (h3 : ABnd fr (some mx) 0 m) (hl : l ≤ h) (hh : h ≤ m) (hm : m ≤ cap) (w : World) :
    (Instr.sliceBounds isS len cap (lo.map a.eval) (some (a.eval hi)) (some (a.eval mx))).run P w = .ok (l, h, m) w := by
  rcases bnd_ok hs h2 with ⟨h0, _⟩ | ⟨z, k', hz0, hz⟩
  · cases h0
  rcases bnd_ok hs h3 with ⟨h0, _⟩ | ⟨y, k, hy0, hy⟩
  · cases h0
  cases hz0; cases hy0
  rcases bnd_ok hs h1 with ⟨rfl, rfl⟩ | ⟨u, k2, rfl, hu⟩ <;>
    simp [Instr.sliceBounds, Instr.sliceBound, asIntOf, *]

include T

theorem ARead.sliceStr {t : TypeId} {td : TD} {x : Operand} {lo hi : Option Operand} {s : List UInt8} {l h : Nat} (ho : o.op = .slice t x lo hi none) (ht : tab t = some td) (hk : td.kind = .str) (hx : aev fr x = some (.fv (.str s)))
    (h1 : ABnd fr lo 0 l) (h2 : ABnd fr hi s.length h) (hl : l ≤ h) (hh : h ≤ s.length) : ARead P nt o N fr H (.fv (.str ((s.take h).drop l))) := by
  intro c a hN hs
  obtain ⟨desc, _, hu, hkk⟩ := run_under T ht
  rw [hk] at hkk
  obtain rfl := kind_str hkk
  have hv := (aev_ok hs hx).str_inv
  have hb := fun w => run_bounds (P := P) hs (isS := false) (cap := s.length) h1 h2 hl hh w
  have hsz : (⟨s.toArray⟩ : ByteArray).size = s.length := by simp [ByteArray.size]
  rw [← hsz] at hb
  refine ⟨.string ⟨((s.take h).drop l).toArray⟩, fun w' hw' => ?_, .fv _ _ (.str _)⟩
  have e : (⟨s.toArray⟩ : ByteArray).extract l h = ⟨((s.take h).drop l).toArray⟩ := by
    apply ByteArray.ext
    apply Array.ext'
    simp [ByteArray.data_extract, List.extract_eq_take_drop, List.drop_take]
  simp only [execOp, ho, Instr.sliceAt, Instr.slice, Sem.run_bind, hu, hv, Result.andThen_ok, Option.map_none, Option.isSome_none, Bool.false_eq_true, if_false, hb, e, Sem.run_pure]

theorem ARead.sliceF0 {t e : TypeId} {td ed : TD} {x : Operand} {lo hi : Option Operand} {sz len : Nat} {g : Nat → List FV} {l h : Nat} (ho : o.op = .slice t x lo hi none) (ht : tab t = some td) (hk : td.kind = .slice e) (he : tab e = some ed) (hsz : ed.size = sz)
    (hx : aev fr x = some (.fv (.sl sz false len g))) (h1 : ABnd fr lo 0 l) (h2 : ABnd fr hi len h) (hl : l ≤ h) (hh : h ≤ len) : ARead P nt o N fr H (.fv (.sl sz false (h - l) fun k => g (l + k))) := by
  intro c a hN hs
  obtain ⟨desc, _, hu, hkk⟩ := run_under T ht
  rw [hk] at hkk
  obtain rfl := kind_slice hkk
  obtain ⟨b, cap, vs, hv, hcap, hsl, hc, hval⟩ := (aev_ok hs hx).fv_inv.sl_inv
  have hb := fun w => run_bounds (P := P) hs (isS := true) (cap := cap) h1 h2 hl (by omega) w
  have hes := run_sizeOf' T he
  rw [hsz] at hes
  refine ⟨.slice (some (if cap = l then b else b.add (l * sz))) (h - l) (cap - l), fun w' hw' => ?_, .fv _ _ (.sl sz (h - l) _ _ _ (fun i j => vs (l + i) j) (by omega) (fun i hi => hsl _ (by omega)) (fun i j x hi hx => ?_) (fun i j x hi hx => hval _ _ _ (by omega) hx))⟩
  · simp only [execOp, ho, Instr.sliceAt, Instr.slice, Sem.run_bind, hu, hv, Result.andThen_ok, Option.map_none, hb, hes, Sem.run_pure]
    split <;> simp
  · have hne : cap ≠ l := by omega
    rw [if_neg hne, add_block, show (b.add (l * sz)).add (i * sz) = b.add ((l + i) * sz) from by rw [add_add, ← Nat.add_mul]]
    exact hc _ _ _ (by omega) hx

theorem ARead.sliceNil {t e : TypeId} {td ed : TD} {x : Operand} {lo hi : Option Operand} {sz : Nat} {g : Nat → List FV} (ho : o.op = .slice t x lo hi none) (ht : tab t = some td) (hk : td.kind = .slice e) (he : tab e = some ed)
    (hx : aev fr x = some (.fv (.sl sz true 0 g))) (h1 : ABnd fr lo 0 0) (h2 : ABnd fr hi 0 0) : ARead P nt o N fr H (.fv (.sl sz true 0 g)) := by
  intro c a hN hs
  obtain ⟨desc, _, hu, hkk⟩ := run_under T ht
  rw [hk] at hkk
  obtain rfl := kind_slice hkk
  have hv : a.eval x = .slice none 0 0 := by
    have h := (aev_ok hs hx).fv_inv
    generalize a.eval x = v at h
    cases h; rfl
  have hb := fun w => run_bounds (P := P) hs (isS := true) (cap := 0) h1 h2 (Nat.le_refl _) (Nat.le_refl _) w
  have hes := run_sizeOf' T he
  exact ⟨.slice none 0 0, fun w' hw' => by simp [execOp, ho, Instr.sliceAt, Instr.slice, hu, hv, hb, hes], .fv _ _ (.slnil _ _)⟩

theorem ARead.sliceF {t e : TypeId} {td ed : TD} {x : Operand} {lo hi : Option Operand} {sz len : Nat} {nil : Bool} {g : Nat → List FV} {l h : Nat} (ho : o.op = .slice t x lo hi none) (ht : tab t = some td) (hk : td.kind = .slice e) (he : tab e = some ed) (hsz : ed.size = sz)
    (hx : aev fr x = some (.fv (.sl sz nil len g))) (h1 : ABnd fr lo 0 l) (h2 : ABnd fr hi len h) (hl : l ≤ h) (hh : h ≤ len) : ARead P nt o N fr H (.fv (.sl sz nil (h - l) fun k => g (l + k))) := by
  cases nil with
  | false => exact ARead.sliceF0 T ho ht hk he hsz hx h1 h2 hl hh
  | true =>
    intro c a hN hs
    have hf := (aev_ok hs hx).fv_inv
    have hlen : len = 0 := by
      generalize a.eval x = v at hf
      cases hf; rfl
    subst hlen
    obtain rfl : h = 0 := by omega
    obtain rfl : l = 0 := by omega
    obtain ⟨v, hr, hv⟩ := ARead.sliceNil T ho ht hk he hx h1 h2 c a hN hs
    refine ⟨v, hr, ?_⟩
    have := hv.fv_inv
    cases this
    exact .fv _ _ (.slnil ..)

theorem ARead.sliceO {t e : TypeId} {td ed : TD} {x : Operand} {lo hi : Option Operand} {n sz i len : Nat} {cap : Option Nat} {l h : Nat} (ho : o.op = .slice t x lo hi none) (ht : tab t = some td) (hk : td.kind = .slice e) (he : tab e = some ed) (hsz : ed.size = sz)
    (hx : aev fr x = some (.sl n sz i len cap)) (h1 : ABnd fr lo 0 l) (h2 : ABnd fr hi len h) (hl : l ≤ h) (hh : h ≤ len ∨ ∃ k, cap = some k ∧ h ≤ k) : ARead P nt o N fr H (.sl n sz (i + l) (h - l) (cap.map (· - l))) := by
  intro c a hN hs
  obtain ⟨desc, _, hu, hkk⟩ := run_under T ht
  rw [hk] at hkk
  obtain rfl := kind_slice hkk
  obtain ⟨b, cp, hv, hn, hlc, hcap, ha⟩ := (aev_ok hs hx).sl_inv
  have hhc : h ≤ cp := by
    rcases hh with hh | ⟨k, hk, hh⟩
    · omega
    · have := hcap k hk; omega
  have hb := fun w => run_bounds (P := P) hs (isS := true) (cap := cp) h1 h2 hl hhc w
  have hes := run_sizeOf' T he
  rw [hsz] at hes
  refine ⟨.slice (some (if cp = l then b else b.add (l * sz))) (h - l) (cp - l), fun w' hw' => ?_, .sl _ _ _ _ _ _ _ hn (by omega) ?_ ?_⟩
  · simp only [execOp, ho, Instr.sliceAt, Instr.slice, Sem.run_bind, hu, hv, Result.andThen_ok, Option.map_none, hb, hes, Sem.run_pure]
    split <;> simp
  · intro k hk
    cases cap with
    | none => cases hk
    | some k0 => simp at hk; rw [← hk, hcap k0 rfl]
  · intro h0
    rw [if_neg (by omega), ha (by omega), add_mk, Nat.add_mul]

/-- x[:0:0] and the like: an empty slice that has no room. -/
theorem ARead.slice3z {t e : TypeId} {td ed : TD} {x : Operand} {lo : Option Operand} {hi mx : Operand} {sz len : Nat} {nil : Bool} {g : Nat → List FV} (ho : o.op = .slice t x lo (some hi) (some mx)) (ht : tab t = some td) (hk : td.kind = .slice e) (he : tab e = some ed)
    (hx : aev fr x = some (.fv (.sl sz nil len g))) (h1 : ABnd fr lo 0 0) (h2 : ABnd fr (some hi) len 0) (h3 : ABnd fr (some mx) 0 0) : ARead P nt o N fr H (.fv (bif nil then .sl sz true 0 g else .sl0 sz)) := by
  intro c a hN hs
  obtain ⟨desc, _, hu, hkk⟩ := run_under T ht
  rw [hk] at hkk
  obtain rfl := kind_slice hkk
  have hes := run_sizeOf' T he
  have hv := (aev_ok hs hx).fv_inv
  generalize hvv : a.eval x = v at hv
  cases hv with
  | slnil =>
    have hb := fun w => run_bounds3 (P := P) hs (isS := true) (len := 0) (cap := 0) h1 h2 h3 (Nat.le_refl _) (Nat.le_refl _) (Nat.le_refl _) w
    exact ⟨.slice none 0 0, fun w' hw' => by simp [execOp, ho, Instr.sliceAt, Instr.slice, hu, hvv, hb, hes], .fv _ _ (.slnil _ _)⟩
  | sl _ _ _ b cap vs =>
    have hb := fun w => run_bounds3 (P := P) hs (isS := true) (len := len) (cap := cap) h1 h2 h3 (Nat.le_refl _) (Nat.le_refl _) (Nat.zero_le _) w
    exact ⟨.slice (some b) 0 0, fun w' hw' => by simp [execOp, ho, Instr.sliceAt, Instr.slice, hu, hvv, hb, hes], .fv _ _ (.sl0 _ _)⟩

theorem ARead.slice3F {t e : TypeId} {td ed : TD} {x : Operand} {lo : Option Operand} {hi mx : Operand} {sz len : Nat} {g : Nat → List FV} {l h m : Nat} (ho : o.op = .slice t x lo (some hi) (some mx)) (ht : tab t = some td) (hk : td.kind = .slice e) (he : tab e = some ed) (hsz : ed.size = sz)
    (hx : aev fr x = some (.fv (.sl sz false len g))) (h1 : ABnd fr lo 0 l) (h2 : ABnd fr (some hi) len h) (h3 : ABnd fr (some mx) 0 m) (hl : l ≤ h) (hh : h ≤ m) (hm : m ≤ len) : ARead P nt o N fr H (.fv (.sl sz false (h - l) fun k => g (l + k))) := by
  intro c a hN hs
  obtain ⟨desc, _, hu, hkk⟩ := run_under T ht
  rw [hk] at hkk
  obtain rfl := kind_slice hkk
  obtain ⟨b, cap, vs, hv, hcap, hsl, hc, hval⟩ := (aev_ok hs hx).fv_inv.sl_inv
  have hb := fun w => run_bounds3 (P := P) hs (isS := true) (len := len) (cap := cap) h1 h2 h3 hl hh (by omega) w
  have hes := run_sizeOf' T he
  rw [hsz] at hes
  refine ⟨.slice (some (if m = l then b else b.add (l * sz))) (h - l) (m - l), fun w' hw' => ?_, .fv _ _ (.sl sz (h - l) _ _ _ (fun i j => vs (l + i) j) (by omega) (fun i hi => hsl _ (by omega)) (fun i j x hi hx => ?_) (fun i j x hi hx => hval _ _ _ (by omega) hx))⟩
  · simp only [execOp, ho, Instr.sliceAt, Instr.slice, Sem.run_bind, hu, hv, Result.andThen_ok, Option.map_some, hb, hes, Sem.run_pure]
    split <;> simp
  · have hne : m ≠ l := by omega
    rw [if_neg hne, add_block, show (b.add (l * sz)).add (i * sz) = b.add ((l + i) * sz) from by rw [add_add, ← Nat.add_mul]]
    exact hc _ _ _ (by omega) hx

/-- An array in memory, as a slice. -/
theorem ARead.sliceArr {t e : TypeId} {td ed : TD} {x : Operand} {lo hi : Option Operand} {n sz i m : Nat} {l h : Nat} (ho : o.op = .slice t x lo hi none) (ht : tab t = some td) (hk : td.kind = .arr m e) (he : tab e = some ed) (hsz : ed.size = sz)
    (hx : aev fr x = some (.ptr n sz i 0)) (h1 : ABnd fr lo 0 l) (h2 : ABnd fr hi m h) (hl : l ≤ h) (hh : h ≤ m) : ARead P nt o N fr H (.sl n sz (i + l) (h - l) (some (m - l))) := by
  intro c a hN hs
  obtain ⟨desc, _, hu, hkk⟩ := run_under T ht
  rw [hk] at hkk
  obtain rfl := kind_arr hkk
  obtain ⟨hv, hn⟩ := (aev_ok hs hx).ptr_inv
  have hb := fun w => run_bounds (P := P) hs (isS := false) (cap := m) h1 h2 hl hh w
  have hes := run_sizeOf' T he
  rw [hsz] at hes
  refine ⟨.slice (some (if m = l then ⟨c.ρ n, i * sz + 0, none⟩ else (⟨c.ρ n, i * sz + 0, none⟩ : Addr).add (l * sz))) (h - l) (m - l), fun w' hw' => ?_, .sl _ _ _ _ _ _ _ hn (by omega) (fun k hk => by simpa using hk.symm) ?_⟩
  · simp [execOp, ho, Instr.sliceAt, hu, hv, Instr.sureAddr, hb, hes]
  · intro h0
    rw [if_neg (by omega), add_mk, Nat.add_mul, Nat.add_zero]

/-- Equality by type. -/
def aeq (tab : TypeId → Option TD) : Nat → TypeId → AV → AV → Option Bool
  | 0, _, _, _ => none
  | d + 1, t, x, y =>
    match tab t with
    | none => none
    | some td =>
      match td.kind, x, y with
      | .bool, .fv (.bool a), .fv (.bool b) => some (a == b)
      | .int _, .fv (.int k a), .fv (.int k' b) => if k = k' then some (decide (a = b)) else none
      | .str, .fv (.str a), .fv (.str b) => some (decide (a = b))
      | .ptr _, .fv .nilptr, .fv .nilptr => some true
      | .ptr _, .ptr .., .fv .nilptr => some false
      | .ptr _, .fv .nilptr, .ptr .. => some false
      | .ptr _, .fv (.fptr _), .fv .nilptr => some false
      | .slice _, .fv (.sl _ nil _ _), .fv (.sl _ true _ _) => some nil
      | .slice _, .fv (.sl0 _), .fv (.sl _ true _ _) => some false
      | .slice _, .sl .., .fv (.sl _ true _ _) => some false
      | .map _ _, .map _, .fv .nilmap => some false
      | .map _ _, .fv .nilmap, .fv .nilmap => some true
      | .iface, .fv .nilif, .fv .nilif => some true
      | .iface, .iface .., .fv .nilif => some false
      | .func, .fv .nilfn, .fv .nilfn => some true
      | .func, .fv (.fn _), .fv .nilfn => some false
      | .func, .fn .., .fv .nilfn => some false
      | .struct fs, .agg xs, .agg ys => if td.stood then none else
          (fs.filter (! ·.blank)).foldr (fun f r => match tab f.ty with
            | none => none
            | some fd => match apart fd.kind.agg f.off fd.size xs, apart fd.kind.agg f.off fd.size ys with
              | some a, some b => match aeq tab d f.ty a b, r with
                | some p, some q => some (p && q)
                | _, _ => none
              | _, _ => none) (some true)
      | _, _, _ => none


/-- The parts' equality, as the model goes. -/
def aeqL (tab : TypeId → Option TD) (d : Nat) (xs ys : List AV) : List FD → Option Bool
  | [] => some true
  | f :: r => if f.blank then aeqL tab d xs ys r else
      match tab f.ty with
      | none => none
      | some fd => match apart fd.kind.agg f.off fd.size xs, apart fd.kind.agg f.off fd.size ys with
        | some a, some b => match aeq tab d f.ty a b, aeqL tab d xs ys r with
          | some p, some q => some (p && q)
          | _, _ => none
        | _, _ => none

omit T in
theorem aeqL_eq (d : Nat) (xs ys : List AV) (fs : List FD) : ((fs.filter (! ·.blank)).foldr (fun f r => match tab f.ty with
            | none => none
            | some fd => match apart fd.kind.agg f.off fd.size xs, apart fd.kind.agg f.off fd.size ys with
              | some a, some b => match aeq tab d f.ty a b, r with
                | some p, some q => some (p && q)
                | _, _ => none
              | _, _ => none) (some true)) = aeqL tab d xs ys fs := by
  induction fs with
  | nil => rfl
  | cons f r ih =>
    simp only [aeqL, List.filter_cons]
    cases hb : f.blank with
    | true => simp [ih]
    | false => simp only [Bool.not_false, if_true, List.foldr_cons, ih, Bool.false_eq_true, if_false]

theorem aeq_ok : ∀ (d : Nat) (t : TypeId) (x y : AV) (b : Bool), aeq tab d t x y = some b → ∀ (m : Nat), d ≤ m → ∀ (w0 w : World) (F : Nat → Prop) (ρ : Nat → Nat) (vx vy : Value), VR w F ρ N x vx → VR w F ρ N y vy →
    (Op.equalIn m t vx vy).run P w0 = .ok b w0 := by
  intro d
  induction d with
  | zero => intro t x y b h; simp [aeq] at h
  | succ d ih =>
    intro t x y b h m hm w0 w F ρ vx vy hx hy
    obtain ⟨m, rfl⟩ : ∃ k, m = k + 1 := ⟨m - 1, by omega⟩
    simp only [aeq] at h
    cases ht : tab t with
    | none => rw [ht] at h; simp at h
    | some td =>
      rw [ht] at h
      simp only at h
      obtain ⟨desc, hdesc, hu, hkk⟩ := run_under T ht
      split at h
      · rename_i hk; rw [hk] at hkk; obtain rfl := kind_bool hkk
        obtain rfl := hx.bool_inv; obtain rfl := hy.bool_inv
        obtain rfl := Option.some.inj h
        exact run_equalIn_bool w0 m t _ _ hdesc
      · rename_i hk; rw [hk] at hkk; obtain rfl := kind_int hkk
        obtain rfl := hx.int_inv; obtain rfl := hy.int_inv
        simp only [Option.ite_none_right_eq_some, Option.some.injEq] at h
        obtain ⟨rfl, rfl⟩ := h
        rw [run_equalIn_int w0 m t _ _ _ _ hdesc, beq_decide]
      · rename_i hk; rw [hk] at hkk; obtain rfl := kind_str hkk
        obtain rfl := hx.str_inv; obtain rfl := hy.str_inv
        obtain rfl := Option.some.inj h
        rw [run_equalIn_string w0 m t _ _ hdesc, toList_mk, toList_mk, beq_decide]
      · rename_i hk; rw [hk] at hkk; obtain rfl := kind_ptr hkk
        obtain rfl := Option.some.inj h
        cases hx.fv_inv; cases hy.fv_inv
        simp [Op.equalIn, hu]
      · rename_i hk; rw [hk] at hkk; obtain rfl := kind_ptr hkk
        obtain rfl := Option.some.inj h
        cases hx; cases hy.fv_inv
        simp [Op.equalIn, hu]
      · rename_i hk; rw [hk] at hkk; obtain rfl := kind_ptr hkk
        obtain rfl := Option.some.inj h
        cases hx.fv_inv; cases hy
        simp [Op.equalIn, hu]
      · rename_i hk; rw [hk] at hkk; obtain rfl := kind_ptr hkk
        obtain rfl := Option.some.inj h
        cases hx.fv_inv; cases hy.fv_inv
        simp [Op.equalIn, hu]
      · rename_i hk; rw [hk] at hkk; obtain rfl := kind_slice hkk
        obtain rfl := Option.some.inj h
        cases hx.fv_inv <;> cases hy.fv_inv <;> simp [Op.equalIn, hu]
      · rename_i hk; rw [hk] at hkk; obtain rfl := kind_slice hkk
        obtain rfl := Option.some.inj h
        cases hx.fv_inv; cases hy.fv_inv; simp [Op.equalIn, hu]
      · rename_i hk; rw [hk] at hkk; obtain rfl := kind_slice hkk
        obtain rfl := Option.some.inj h
        cases hx; cases hy.fv_inv; simp [Op.equalIn, hu]
      · rename_i hk; rw [hk] at hkk; obtain rfl := kind_map hkk
        obtain rfl := Option.some.inj h
        cases hx; cases hy.fv_inv; simp [Op.equalIn, hu]
      · rename_i hk; rw [hk] at hkk; obtain rfl := kind_map hkk
        obtain rfl := Option.some.inj h
        cases hx.fv_inv; cases hy.fv_inv; simp [Op.equalIn, hu]
      · rename_i hk; rw [hk] at hkk
        obtain rfl := Option.some.inj h
        cases hx.fv_inv; cases hy.fv_inv
        cases desc <;> simp [kindOf] at hkk
        simp [Op.equalIn, hu]
      · rename_i hk; rw [hk] at hkk
        obtain rfl := Option.some.inj h
        cases hx; cases hy.fv_inv
        cases desc <;> simp [kindOf] at hkk
        simp [Op.equalIn, hu]
      · rename_i hk; rw [hk] at hkk
        obtain rfl := Option.some.inj h
        cases hx.fv_inv; cases hy.fv_inv
        cases desc <;> simp [kindOf] at hkk
        simp [Op.equalIn, hu]
      · rename_i hk; rw [hk] at hkk
        obtain rfl := Option.some.inj h
        cases hx.fv_inv; cases hy.fv_inv
        cases desc <;> simp [kindOf] at hkk
        simp [Op.equalIn, hu]
      · rename_i hk; rw [hk] at hkk
        obtain rfl := Option.some.inj h
        cases hx; cases hy.fv_inv
        cases desc <;> simp [kindOf] at hkk
        simp [Op.equalIn, hu]
      · rename_i fs xs ys hk
        rw [hk] at hkk
        obtain ⟨fl, rfl, hmm⟩ := kind_struct hkk
        split at h
        · simp at h
        · rename_i hstood
          rw [aeqL_eq] at h
          obtain ⟨xa, rfl, hxl, hxv⟩ := hx.agg_inv
          obtain ⟨ya, rfl, hyl, hyv⟩ := hy.agg_inv
          obtain ⟨_, _, _, hd', _, _, _, _, _, hst⟩ := tabOf_inv (T t td ht)
          have hfo : P.fieldsOf t = fl := by simp [Program.fieldsOf, hdesc]
          rw [run_equalIn_struct w0 m t xa ya (by rw [hfo]; exact hdesc) (by rw [hst]; simpa using hstood), hfo]
          have key : ∀ (fl : List Field) (fs : List FD) (b : Bool), fl.mapM (fun f => (P.info? f.type).map fun i => (⟨f.offset, i.size, f.type, f.name == "_"⟩ : FD)) = some fs →
              aeqL tab d xs ys fs = some b → (Op.eqFields m xa ya fl).run P w0 = .ok b w0 := by
            intro fl
            induction fl with
            | nil => intro fs b h1 h2; simp at h1; subst h1; simp [aeqL] at h2; subst h2; simp [Op.eqFields]
            | cons f fl ihl =>
              intro fs b h1 h2
              simp only [List.mapM_cons, Option.pure_def, Option.bind_eq_bind, Option.bind_eq_some_iff] at h1
              obtain ⟨fd, hfd, r, hr, h1⟩ := h1
              simp at h1; subst h1
              obtain ⟨inf, hinf, rfl⟩ := Option.map_eq_some_iff.1 hfd
              simp only [aeqL] at h2
              cases hbl : (f.name == "_") with
              | true =>
                have hn : f.name = "_" := by simpa using hbl
                rw [hbl] at h2
                simp only [if_true] at h2
                simp only [Op.eqFields, hn, ne_eq, not_true_eq_false, if_false]
                exact ihl r b hr h2
              | false =>
                have hn : f.name ≠ "_" := by simpa using hbl
                rw [hbl] at h2
                simp only [Bool.false_eq_true, if_false] at h2
                split at h2
                · simp at h2
                · rename_i fd2 hf2
                  split at h2
                  · rename_i p q hp hq
                    split at h2
                    · rename_i b1 b2 hb1 hb2
                      obtain rfl := Option.some.inj h2
                      obtain ⟨v1, hr1, hv1⟩ := run_part' (P := P) T hf2 hp hxl hxv
                      obtain ⟨v2, hr2, hv2⟩ := run_part' (P := P) T hf2 hq hyl hyv
                      have e1 := ih f.type p q b1 hb1 m (by omega) w0 w F ρ v1 v2 hv1 hv2
                      have e2 := ihl r b2 hr hb2
                      simp only [Op.eqFields, ne_eq, hn, not_false_eq_true, if_true, Sem.run_bind, hr1, hr2, e1, Result.andThen_ok]
                      cases b1 <;> simp [e2]
                    · simp at h2
                  · simp at h2
          exact key fl.toList fs b hmm h
      · simp at h

omit T in
theorem binOp_eq (t : TypeId) (v u : Value) (h : (match u with | .int .. | .string _ | .float .. | .complex .. => false | _ => true) = true) :
    binOp .eql t v u = (do pure (.bool (← Op.equal t v u))) ∧ binOp .neq t v u = (do pure (.bool (!(← Op.equal t v u)))) := by
  cases u <;> simp at h <;> cases v <;> exact ⟨rfl, rfl⟩

/-- '==' and '!=' by the type. -/
theorem ARead.eqT {neg : Bool} {t t' : TypeId} {td : TD} {x y : Operand} {p q : AV} {b : Bool} (ho : o.op = .binOp (bif neg then .neq else .eql) t x y t') (ht : tab t = some td) (hg : td.guard = false)
    (hx : aev fr x = some p) (hy : aev fr y = some q) (hq : (match q with | .fv (.int ..) | .fv (.str _) | .iface .. | .fv .nilif | .fv (.iface1 ..) | .fv (.ifaceA ..) | .ifb .. | .junk => false | _ => true) = true) (h : aeq tab 100 t p q = some b) : ARead P nt o N fr H (.fv (.bool (bif neg then !b else b))) := by
  intro c a hN hs
  subst hN
  have h1 := aev_ok hs hx
  have h2 := aev_ok hs hy
  obtain ⟨_, _, _, _, _, _, _, _, hgd, _⟩ := tabOf_inv (T t td ht)
  rw [hg] at hgd
  have he : ∀ w', (Op.equal t (a.eval x) (a.eval y)).run P w' = .ok b w' := fun w' => aeq_ok T 100 t p q b h 10000 (by omega) w' c.w c.F c.ρ _ _ h1 h2
  refine ⟨.bool (bif neg then !b else b), fun w' hw' => ?_, .fv _ _ (.bool _)⟩
  have hu : (match a.eval y with | .int .. | .string _ | .float .. | .complex .. => false | _ => true) = true := by
    generalize a.eval y = vy at h2
    cases h2 with
    | fv z v hz => cases hz <;> simp at hq <;> rfl
    | junk v => simp at hq
    | ifb => simp at hq
    | _ => rfl
  have hguard : ∀ (op : BinOp) (w' : World), (eqGuard op t x y (a.eval x) (a.eval y)).run P w' = .ok () w' := by
    intro op w'
    generalize a.eval x = vx at *
    generalize a.eval y = vy at *
    by_cases hop : (match op with | .eql | .neq => true | _ => false) = true
    · cases h2 with
      | agg ys vs hl hv =>
        cases vx with
        | agg xs => exact run_eqGuard_agg w' op t x y xs vs hgd
        | _ => cases op <;> simp at hop <;> simp [eqGuard]
      | iface => simp at hq
      | fv z v hz => cases hz <;> simp at hq <;> cases op <;> simp at hop <;> cases vx <;> simp [eqGuard]
      | junk v => simp at hq
      | ifb => simp at hq
      | _ => cases op <;> simp at hop <;> cases vx <;> simp [eqGuard]
    · cases op <;> simp at hop <;> simp [eqGuard]
  obtain ⟨hb1, hb2⟩ := binOp_eq t (a.eval x) (a.eval y) hu
  cases neg
  · simp only [cond_false] at ho
    simp only [execOp, ho, Sem.run_bind, hguard, Result.andThen_ok, hb1, he, Sem.run_pure, cond_false]
  · simp only [cond_true] at ho
    simp only [execOp, ho, Sem.run_bind, hguard, Result.andThen_ok, hb2, he, Sem.run_pure, cond_true]

/-- An interface value against nil. -/
theorem ARead.eqNilIf {neg : Bool} {t t' : TypeId} {td : TD} {x : Operand} {p : AV} {b : Bool} (ho : o.op = .binOp (bif neg then .neq else .eql) t x (.const .nilIface) t') (ht : tab t = some td) (hk : td.kind = .iface)
    (hx : aev fr x = some p) (h : aeq tab 100 t p (.fv .nilif) = some b) : ARead P nt o N fr H (.fv (.bool (bif neg then !b else b))) := by
  intro c a hN hs
  subst hN
  have h1 := aev_ok hs hx
  have h2 : VR c.w c.F c.ρ c.N (.fv .nilif) .nilIface := .fv _ _ .nilif
  have hev : a.eval (.const .nilIface) = .nilIface := rfl
  have he : ∀ w', (Op.equal t (a.eval x) .nilIface).run P w' = .ok b w' := fun w' => aeq_ok T 100 t p _ b h 10000 (by omega) w' c.w c.F c.ρ _ _ h1 h2
  refine ⟨.bool (bif neg then !b else b), fun w' hw' => ?_, .fv _ _ (.bool _)⟩
  have hguard : ∀ (op : BinOp) (w' : World), (eqGuard op t x (.const .nilIface) (a.eval x) .nilIface).run P w' = .ok () w' := by
    intro op w'
    generalize a.eval x = vx at *
    cases op <;> cases vx <;> simp [eqGuard]
  obtain ⟨hb1, hb2⟩ := binOp_eq t (a.eval x) .nilIface rfl
  cases neg
  · simp only [cond_false] at ho
    simp only [execOp, ho, hev, Sem.run_bind, hguard, Result.andThen_ok, hb1, he, Sem.run_pure, cond_false]
  · simp only [cond_true] at ho
    simp only [execOp, ho, hev, Sem.run_bind, hguard, Result.andThen_ok, hb2, he, Sem.run_pure, cond_true]

/-- What is surely not nil, for a nilCheck. -/
def notNil : AV → Bool
  | .ptr .. | .fv (.fptr _) | .fv (.fn (.func _)) | .fn (.func _) .. => true
  | _ => false

omit T in
theorem ARead.nilCheck {x : Operand} {p : AV} (ho : o.op = .nilCheck x) (hx : aev fr x = some p) (hp : notNil p = true) : ARead P nt o N fr H p := by
  intro c a hN hs
  have h1 := aev_ok hs hx
  subst hN
  refine ⟨a.eval x, fun w' hw' => ?_, h1⟩
  generalize hv : a.eval x = v at h1
  unfold notNil at hp
  split at hp
  · cases h1; simp [execOp, ho, hv]
  · cases h1.fv_inv; simp [execOp, ho, hv]
  · cases h1.fv_inv; simp [execOp, ho, hv]
  · cases h1; simp [execOp, ho, hv]
  · simp at hp

/-- The greater, or the lesser, of two. -/
def amax (mx : Bool) (x y : FV) : Option FV :=
  match x, y with
  | .int k a, .int k' b => if k = k' then some (.int k (bif mx then (if b > a then b else a) else (if b < a then b else a))) else none
  | .str a, .str b => some (.str (bif mx then (bif Op.bytesLess a b then b else a) else (bif Op.bytesLess a b || decide (a = b) then a else b)))
  | _, _ => none

omit T in
theorem ARead.max {mx : Bool} {x y : Operand} {ts : Array TypeId} {fx fy r : FV} (ho : o.op = .call { callee := .builtin (bif mx then .max else .min), args := #[x, y], argTypes := ts }) (hx : aev fr x = some (.fv fx)) (hy : aev fr y = some (.fv fy))
    (h : amax mx fx fy = some r) : ARead P nt o N fr H (.fv r) := by
  intro c a hN hs
  have h1 := (aev_ok hs hx).fv_inv
  have h2 := (aev_ok hs hy).fv_inv
  generalize hvx : a.eval x = vx at h1
  generalize hvy : a.eval y = vy at h2
  unfold amax at h
  split at h
  · simp only [Option.ite_none_right_eq_some, Option.some.injEq] at h
    obtain ⟨rfl, rfl⟩ := h
    cases h1; cases h2
    refine ⟨_, fun w' hw' => ?_, .fv _ _ (.int ..)⟩
    cases mx
    · simp only [cond_false] at ho
      simp [execOp, ho, resolve, invoke, builtin, Builtin.min_, Builtin.min2, hvx, hvy]
    · simp only [cond_true] at ho
      simp [execOp, ho, resolve, invoke, builtin, Builtin.max_, Builtin.max2, hvx, hvy]
  · obtain rfl := Option.some.inj h
    cases h1; cases h2
    rename_i s s'
    cases mx
    · simp only [cond_false] at ho
      refine ⟨.string (if (Op.bytesLess s s' || decide (s = s')) = true then ⟨s.toArray⟩ else ⟨s'.toArray⟩), fun w' hw' => ?_, ?_⟩
      · simp [execOp, ho, resolve, invoke, builtin, Builtin.min_, Builtin.min2, hvx, hvy, Op.stringOp, asBool, toList_mk]
      · cases (Op.bytesLess s s' || decide (s = s')) <;> exact .fv _ _ (.str _)
    · simp only [cond_true] at ho
      refine ⟨.string (if Op.bytesLess s s' = true then ⟨s'.toArray⟩ else ⟨s.toArray⟩), fun w' hw' => ?_, ?_⟩
      · simp [execOp, ho, resolve, invoke, builtin, Builtin.max_, Builtin.max2, hvx, hvy, Op.stringOp, asBool, toList_mk]
        cases Op.bytesLess s s' <;> simp
      · cases Op.bytesLess s s' <;> exact .fv _ _ (.str _)
  · simp at h

end
end Go.Sl
