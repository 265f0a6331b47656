/- Slices that own their array (rows); append. No condition. -/
import Derived.Test.YtfbagkifhpnfjaaSl13
import Derived.Laws.Append
namespace Go.Sl
open Go
set_option linter.unusedVariables false
set_option linter.unusedSimpArgs false
variable {P : Program}

theorem VR.row_inv {w : World} {F : Nat → Prop} {ρ : Nat → Nat} {N n len : Nat} {nil : Bool} {v : Value} (h : VR w F ρ N (.row n nil len) v) :
    n + 1 < N ∧ ((nil = true ∧ len = 0 ∧ v = .slice none 0 0) ∨ (nil = false ∧ v = .slice (some ⟨ρ n, 0, none⟩) len (ρ (n + 1)))) := by
  cases h with
  | rowNil _ h => exact ⟨h, .inl ⟨rfl, rfl, rfl⟩⟩
  | row _ _ h => exact ⟨h, .inr ⟨rfl, rfl⟩⟩

/-- A double row of values, as one. -/
def flatV (vs : Nat → Nat → Value) (len sz : Nat) : List Value := (List.range (len * sz)).map fun k => vs (k / sz) (k % sz)

theorem flatV_len (vs : Nat → Nat → Value) (len sz : Nat) : (flatV vs len sz).length = len * sz := by simp [flatV]

theorem divmod {i j sz : Nat} (hj : j < sz) : (i * sz + j) / sz = i ∧ (i * sz + j) % sz = j := by
  have h0 : 0 < sz := by omega
  constructor
  · rw [Nat.mul_comm, Nat.mul_add_div h0, Nat.div_eq_of_lt hj]; rfl
  · rw [Nat.mul_comm, Nat.mul_add_mod, Nat.mod_eq_of_lt hj]

theorem place_lt {i j sz len : Nat} (hi : i < len) (hj : j < sz) : i * sz + j < len * sz := by
  have : (i + 1) * sz ≤ len * sz := Nat.mul_le_mul_right _ hi
  rw [Nat.add_mul] at this; omega

theorem place_of {k sz len : Nat} (h : k < len * sz) : k / sz < len ∧ k % sz < sz ∧ k = (k / sz) * sz + k % sz := by
  have h0 : 0 < sz := by
    rcases Nat.eq_zero_or_pos sz with h' | h'
    · rw [h'] at h; omega
    · exact h'
  refine ⟨Nat.div_lt_of_lt_mul (by rw [Nat.mul_comm]; exact h), Nat.mod_lt _ h0, ?_⟩
  have := Nat.div_add_mod k sz
  rw [Nat.mul_comm] at this; exact this.symm

theorem flatV_get (vs : Nat → Nat → Value) {len sz i j : Nat} (hi : i < len) (hj : j < sz) : (flatV vs len sz)[i * sz + j]? = some (vs i j) := by
  have := place_lt hi hj
  obtain ⟨h1, h2⟩ := divmod (i := i) hj
  simp [flatV, List.getElem?_range this, h1, h2]

theorem flatV_inv {vs : Nat → Nat → Value} {len sz k : Nat} {u : Value} (h : (flatV vs len sz)[k]? = some u) : ∃ i j, i < len ∧ j < sz ∧ k = i * sz + j ∧ u = vs i j := by
  have hk := len_of_get h
  rw [flatV_len] at hk
  obtain ⟨h1, h2, h3⟩ := place_of hk
  refine ⟨k / sz, k % sz, h1, h2, h3, ?_⟩
  simp [flatV, List.getElem?_range hk] at h
  exact h.symm

/-- What is appended: elements that can be read. -/
inductive ASrc (fr : Frame) (H : Heap) (x : Operand) (sz : Nat) : List (List AV) → Prop
  | fv (nil : Bool) (len : Nat) (h : Nat → List FV) (hx : aev fr x = some (.fv (.sl sz nil len h))) : ASrc fr H x sz ((List.range len).map fun i => (h i).map AV.fv)
  | sl0 (s0 : Nat) (hx : aev fr x = some (.fv (.sl0 s0))) : ASrc fr H x sz []
  | nil0 (s0 : Nat) (h : Nat → List FV) (hx : aev fr x = some (.fv (.sl s0 true 0 h))) : ASrc fr H x sz []
  | arr (n i len len2 : Nat) (cap : Option Nat) (g : Nat → List AV) (tight : Bool) (Hr : Heap) (hx : aev fr x = some (.sl n sz i len cap)) (hh : Has n (.arr sz len2 g tight) H Hr) (hi : i + len ≤ len2) :
      ASrc fr H x sz ((List.range len).map fun k => g (i + k))
  | flat (n i len : Nat) (cap : Option Nat) (cs : List AV) (Hr : Heap) (hx : aev fr x = some (.sl n sz i len cap)) (hh : Has n (vr cs) H Hr) (hi : (i + len) * sz ≤ cs.length) :
      ASrc fr H x sz ((List.range len).map fun k => (cs.drop ((i + k) * sz)).take sz)
  | rowPart (n i len : Nat) (cap : Option Nat) (els : List (List AV)) (Hr : Heap) (hx : aev fr x = some (.sl n sz i len cap)) (hh : Has n (.row sz false els) H Hr) (hi : i + len ≤ els.length) :
      ASrc fr H x sz ((List.range len).map fun k => els.getD (i + k) [])
  | row (n : Nat) (nil : Bool) (els : List (List AV)) (Hr : Heap) (hx : aev fr x = some (.row n nil els.length)) (hh : Has n (.row sz nil els) H Hr) : ASrc fr H x sz els

/-- How a source reads. -/
structure SrcS (c : Cx) (sz : Nat) (els : List (List AV)) (v : Value) (news : List Value) : Prop where
  val : (v = .slice none 0 0 ∧ els = []) ∨ ∃ a k, v = .slice (some a) els.length k ∧ ∀ (j : Nat) u, news[j]? = some u → c.w.cell? (a.add j) = some u
  len : news.length = els.length * sz
  wide : ∀ (i : Nat) (l : List AV), els[i]? = some l → l.length = sz
  get : ∀ (i j : Nat) (l : List AV) y, els[i]? = some l → l[j]? = some y → VR c.w c.F c.ρ c.N y (news.getD (i * sz + j) undef)

theorem AV.one_plain {x : AV} (h : x.one = true) : x.plain = true := by cases x <;> simp_all [AV.one, AV.plain]

/-- A row is told as an array. -/
theorem OR.rowArr {w : World} {F : Nat → Prop} {ρ : Nat → Nat} {N n sz : Nat} {els : List (List AV)} {B : List Nat} (h : OR w F ρ N n (.row sz false els) B) :
    OR w F ρ N n (.arr sz els.length (fun i => els.getD i []) false) B := by
  have getl : ∀ {i : Nat}, i < els.length → els[i]? = some (els.getD i []) := fun {i} h => by rw [List.getD_eq_getElem?_getD, List.getElem?_eq_getElem h]; rfl
  cases h with
  | row _ _ c ty fz vs Bs h hb hfree hlen hsize hmax hsz hcell hval =>
    exact .arr n sz els.length _ false c ty fz vs Bs (by omega) hb hfree (by rw [hsize]; exact Nat.mul_le_mul_right _ hlen) (fun h => by cases h)
      (fun i hi => hsz i _ (getl hi)) (fun i j x hi hx => hcell i j _ x (getl hi) hx) (fun i j x hi hx => hval i j _ x (getl hi) hx)

/-- A variable is told as an array. -/
theorem OR.flatArr {w : World} {F : Nat → Prop} {ρ : Nat → Nat} {N n sz k : Nat} {cs : List AV} {B : List Nat} (h : OR w F ρ N n (vr cs) B) (hk : k * sz ≤ cs.length) :
    ∃ B', OR w F ρ N n (.arr sz k (fun q => (cs.drop (q * sz)).take sz) false) B' := by
  cases h with
  | arr _ _ _ _ c ty fz vs Bs hn hb hfree hsize ht hsz hcell hval =>
    have len : ∀ i, i < k → ((cs.drop (i * sz)).take sz).length = sz := fun i hi => by
      have : (i + 1) * sz ≤ k * sz := Nat.mul_le_mul_right _ hi
      rw [Nat.add_mul] at this
      rw [List.length_take, List.length_drop]; omega
    have get : ∀ i j x, ((cs.drop (i * sz)).take sz)[j]? = some x → cs[i * sz + j]? = some x := fun i j x hx => by
      rw [List.getElem?_take] at hx
      split at hx
      · rw [List.getElem?_drop] at hx; exact hx
      · cases hx
    exact ⟨_, .arr n sz k _ false c ty fz (fun i j => vs 0 (i * sz + j)) (fun i j => Bs 0 (i * sz + j)) hn hb hfree (by omega) (fun h => by cases h) len
      (fun i j x hi hx => by have := hcell 0 (i * sz + j) x (by omega) (get i j x hx); simpa using this) (fun i j x hi hx => hval 0 (i * sz + j) x (by omega) (get i j x hx))⟩

theorem src_arr {c : Cx} {n sz i0 len len2 k : Nat} {g : Nat → List AV} {tight : Bool} {ad : Addr} {v : Value} {B : List Nat} (hor : OR c.w c.F c.ρ c.N n (.arr sz len2 g tight) B) (hv : v = .slice (some ad) len k) (hlk : len ≤ k) (had : 0 < k → ad = ⟨c.ρ n, i0 * sz, none⟩) (hi0 : i0 + len ≤ len2)
    (hone' : ∀ (i j : Nat) (l : List AV) y, ((List.range len).map fun k => g (i0 + k))[i]? = some l → l[j]? = some y → y.one = true) : ∃ news, SrcS c sz ((List.range len).map fun k => g (i0 + k)) v news := by
  cases hor with
  | arr _ _ _ _ cells ty fz vs Bs _ hb hfree hsize ht hsz hcell hval =>
    have elt : ∀ (i : Nat) (l : List AV), ((List.range len).map fun k => g (i0 + k))[i]? = some l → i < len ∧ l = g (i0 + i) := by
      intro i l hl
      have hi := len_of_get hl
      rw [List.length_map, List.length_range] at hi
      rw [List.getElem?_map, List.getElem?_range hi] at hl
      exact ⟨hi, by simpa using hl.symm⟩
    refine ⟨flatV (fun i j => vs (i0 + i) j) len sz, .inr ⟨ad, k, by rw [hv]; simp, fun j u hu => ?_⟩, by simp [flatV_len], fun i l hl => ?_, fun i j l y hl hy => ?_⟩
    · obtain ⟨i, j', hi, hj, rfl, rfl⟩ := flatV_inv hu
      rw [had (by omega), add_mk]
      have hg := hsz (i0 + i) (by omega)
      have := hcell (i0 + i) j' _ (by omega) (List.getElem?_eq_getElem (by rw [hg]; exact hj))
      simp only [World.cell?, hb]
      rw [show i0 * sz + (i * sz + j') = (i0 + i) * sz + j' by rw [Nat.add_mul]; omega]
      exact this
    · obtain ⟨hi, rfl⟩ := elt i l hl
      exact hsz _ (by omega)
    · have hl' := hl
      obtain ⟨hi, rfl⟩ := elt i l hl
      have hj := len_of_get hy
      rw [hsz _ (by omega)] at hj
      rw [List.getD_eq_getElem?_getD, flatV_get _ hi hj]
      exact ((hval _ j y (by omega) hy).vr (AV.one_plain (hone' i j _ y hl' hy))).1

theorem ASrc.read {nt : Nat} {c : Cx} {a : Act} {fr : Frame} {H : Heap} {x : Operand} {sz : Nat} {els : List (List AV)} (h : ASrc fr H x sz els) (hone : els.all (fun l => l.all AV.one) = true) (hs : Sit nt c a fr H) :
    ∃ news, SrcS c sz els (a.eval x) news := by
  have hone' : ∀ (i j : Nat) (l : List AV) y, els[i]? = some l → l[j]? = some y → y.one = true := fun i j l y h1 h2 => List.all_eq_true.1 (List.all_eq_true.1 hone l (List.mem_of_getElem? h1)) y (List.mem_of_getElem? h2)
  cases h with
  | fv nil len h hx =>
    have hv := aev_ok hs hx
    generalize a.eval x = v at hv
    cases hv with
    | fv _ _ hf =>
      cases nil with
      | true => cases hf; exact ⟨[], .inl ⟨rfl, rfl⟩, by simp, fun i l hl => by simp at hl, fun i j l y hl => by simp at hl⟩
      | false =>
        obtain ⟨ad, k, vs, rfl, h1, h2, h3, h4⟩ := hf.sl_inv
        have elt : ∀ (i : Nat) (l : List AV), ((List.range len).map fun i => (h i).map AV.fv)[i]? = some l → i < len ∧ l = (h i).map AV.fv := by
          intro i l hl
          have hi := len_of_get hl
          rw [List.length_map, List.length_range] at hi
          rw [List.getElem?_map, List.getElem?_range hi] at hl
          exact ⟨hi, by simpa using hl.symm⟩
        refine ⟨flatV vs len sz, .inr ⟨ad, k, by simp, fun j u hu => ?_⟩, by simp [flatV_len], fun i l hl => ?_, fun i j l y hl hy => ?_⟩
        · obtain ⟨i, j', hi, hj, rfl, rfl⟩ := flatV_inv hu
          have := (h3 i j' _ hi (List.getElem?_eq_getElem (by rw [h2 i hi]; exact hj))).2
          rwa [add_add] at this
        · obtain ⟨hi, rfl⟩ := elt i l hl
          simp [h2 i hi]
        · obtain ⟨hi, rfl⟩ := elt i l hl
          obtain ⟨z, hz, rfl⟩ := Option.map_eq_some_iff.1 (by simpa using hy)
          have hj := len_of_get hz
          rw [h2 i hi] at hj
          rw [List.getD_eq_getElem?_getD, flatV_get vs hi hj]
          exact .fv _ _ (h4 i j z hi hz)
  | sl0 s0 hx =>
    have hv := aev_ok hs hx
    generalize a.eval x = v at hv
    cases hv with
    | fv _ _ hf => cases hf with | sl0 _ ad => exact ⟨[], .inr ⟨ad, 0, rfl, fun j u hu => by simp at hu⟩, by simp, fun i l hl => by simp at hl, fun i j l y hl => by simp at hl⟩
  | nil0 s0 h hx =>
    have hv := aev_ok hs hx
    generalize a.eval x = v at hv
    cases hv with
    | fv _ _ hf => cases hf; exact ⟨[], .inl ⟨rfl, rfl⟩, by simp, fun i l hl => by simp at hl, fun i j l y hl => by simp at hl⟩
  | arr n i0 len len2 cap g tight Hr hx hh hi0 =>
    obtain ⟨ad, k, hv, hn, hlk, _, had⟩ := (aev_ok hs hx).sl_inv
    obtain ⟨B, hor⟩ := hh.mem hs.st.hr
    exact src_arr hor hv hlk had hi0 hone'
  | flat n i0 len cap cs Hr hx hh hi0 =>
    obtain ⟨ad, k, hv, hn, hlk, _, had⟩ := (aev_ok hs hx).sl_inv
    obtain ⟨B, hor⟩ := hh.mem hs.st.hr
    obtain ⟨B', hor'⟩ := hor.flatArr (sz := sz) hi0
    exact src_arr (g := fun q => (cs.drop (q * sz)).take sz) hor' hv hlk had (Nat.le_refl _) hone'
  | rowPart n i0 len cap els Hr hx hh hi0 =>
    obtain ⟨ad, k, hv, hn, hlk, _, had⟩ := (aev_ok hs hx).sl_inv
    obtain ⟨B, hor⟩ := hh.mem hs.st.hr
    exact src_arr (g := fun i => els.getD i []) hor.rowArr hv hlk had hi0 hone'
  | row n nil _ Hr hx hh =>
    obtain ⟨hn, hv⟩ := (aev_ok hs hx).row_inv
    obtain ⟨B, hor⟩ := hh.mem hs.st.hr
    cases hor with
    | rowNil =>
      rcases hv with ⟨_, _, hv⟩ | ⟨h, _⟩
      · exact ⟨[], .inl ⟨hv, rfl⟩, by simp, fun i l hl => by simp at hl, fun i j l y hl => by simp at hl⟩
      · cases h
    | row _ _ cells ty fz vs Bs _ hb hfree hlen hsize hmax hsz hcell hval =>
      rcases hv with ⟨h, _⟩ | ⟨_, hv⟩
      · cases h
      refine ⟨flatV vs els.length sz, .inr ⟨_, _, hv, fun j u hu => ?_⟩, by simp [flatV_len], hsz, fun i j l y hl hy => ?_⟩
      · obtain ⟨i, j', hi, hj, rfl, rfl⟩ := flatV_inv hu
        rw [add_mk, Nat.zero_add]
        have hg := hsz i _ (List.getElem?_eq_getElem hi)
        have := hcell i j' _ _ (List.getElem?_eq_getElem hi) (List.getElem?_eq_getElem (by rw [hg]; exact hj))
        simp only [World.cell?, hb]
        exact this
      · have hi := len_of_get hl
        have hj := len_of_get hy
        rw [hsz i l hl] at hj
        rw [List.getD_eq_getElem?_getD, flatV_get vs hi hj]
        exact ((hval i j l y hl hy).vr (AV.one_plain (hone' i j l y hl hy))).1

/-- How anything that can be appended reads. -/
structure SrcV (P : Program) (c : Cx) (sz : Nat) (els : List (List AV)) (v : Value) (news : List Value) : Prop where
  lenv : ∀ w', (Builtin.lenOf v).run P w' = .ok els.length w'
  cellsv : ∀ w', w'.heap = c.w.heap → (Builtin.firstCells sz els.length v).run P w' = .ok news.toArray w'
  len : news.length = els.length * sz
  wide : ∀ (i : Nat) (l : List AV), els[i]? = some l → l.length = sz
  get : ∀ (i j : Nat) (l : List AV) y, els[i]? = some l → l[j]? = some y → VR c.w c.F c.ρ c.N y (news.getD (i * sz + j) undef)

theorem SrcS.toV {c : Cx} {sz : Nat} {els : List (List AV)} {v : Value} {news : List Value} (h : SrcS c sz els v news) : SrcV P c sz els v news := by
  refine ⟨?_, ?_, h.len, h.wide, h.get⟩
  · intro w'
    rcases h.val with ⟨rfl, rfl⟩ | ⟨a, k, rfl, hc⟩ <;> simp [Builtin.lenOf]
  · intro w' hw
    rcases h.val with ⟨rfl, rfl⟩ | ⟨a, k, rfl, hc⟩
    · have hnv : news = [] := List.eq_nil_of_length_eq_zero (by rw [h.len]; simp)
      subst hnv
      simp [Builtin.firstCells]
    · exact run_firstCells_some (P := P) w' sz els.length a els.length k news h.len fun j u hu => by
        rw [World.cell?_of_block (w := c.w) (by rw [hw])]; exact hc j u hu

/-- Append, where there is no room. -/
theorem run_append_fresh {w : World} {t u ty e : TypeId} {i : TypeInfo} {z : Value} {d : TypeDesc} (ht : P.underlying t = some (.slice e)) (hu : P.underlying u = some d) (hd : (∃ e2, d = .slice e2) ∨ d = .string) (hi : P.info? e = some i) (hz : i.zero = some z)
    {base : Option Addr} {sLen sCap n : Nat} {xv : Value} {olds news : Array Value} (ho : ∀ w', w'.heap = w.heap → (Builtin.firstCells i.size sLen (.slice base sLen sCap)).run P w' = .ok olds w')
    (hl : ∀ w', (Builtin.lenOf xv).run P w' = .ok n w') (hn : ∀ w', w'.heap = w.heap → (Builtin.firstCells i.size n xv).run P w' = .ok news w')
    (hg : sCap < sLen + n) (h63 : ((sLen + n : Nat) : Int) ≤ 9223372036854775807) (hfit : Builtin.nextslicecap (sLen + n) sCap * i.bytes ≤ 281474976710656) :
    (Builtin.append_ #[t, u] ty #[.slice base sLen sCap, xv]).run P w =
      .ok (.slice (some ⟨w.heap.size, 0, none⟩) (sLen + n) (grownCap w (sLen + n) sCap e))
        (w.drew.alloc (.cells (olds ++ news ++ Builtin.zeroCells z.cells (grownCap w (sLen + n) sCap e - (sLen + n))) e)) := by
  have hn' : ¬ (sLen + n ≤ sCap) := by omega
  have h63' : ¬ (9223372036854775807 < ((sLen : Int) + (n : Int))) := by omega
  have h48' : ¬ (281474976710656 < Builtin.nextslicecap (sLen + n) sCap * i.bytes) := by omega
  have h1 := ho w.drew rfl
  have h2 := hn w.drew rfl
  have h3 := hl w
  rcases hd with ⟨e2, rfl⟩ | rfl <;> simp [Builtin.append_, run_underlying ht, run_underlying hu, Go.sizeOf, typeInfo, zeroValue, hi, hz, h3, hn', h63', h48', Question.forced, h1, h2, newRow, grownCap]

/-- Append, where there is room. -/
theorem run_append_fits {w w1 : World} {t u ty e : TypeId} {i : TypeInfo} {d : TypeDesc} (ht : P.underlying t = some (.slice e)) (hu : P.underlying u = some d) (hd : (∃ e2, d = .slice e2) ∨ d = .string) (hi : P.info? e = some i)
    {base : Option Addr} {sLen sCap n : Nat} {xv : Value} {news : Array Value}
    (hl : ∀ w', (Builtin.lenOf xv).run P w' = .ok n w') (hn : (Builtin.firstCells i.size n xv).run P w = .ok news w)
    (hg : sLen + n ≤ sCap) (hst : (match base with | some a => storeCells (a.add (sLen * i.size)) news.toList | none => pure ()).run P w = .ok () w1) :
    (Builtin.append_ #[t, u] ty #[.slice base sLen sCap, xv]).run P w = .ok (.slice base (sLen + n) sCap) w1 := by
  have h3 := hl w
  cases base with
  | none =>
    simp at hst
    subst hst
    rcases hd with ⟨e2, rfl⟩ | rfl <;> simp [Builtin.append_, run_underlying ht, run_underlying hu, Go.sizeOf, typeInfo, hi, h3, hg, hn]
  | some a =>
    simp only [] at hst
    rcases hd with ⟨e2, rfl⟩ | rfl <;> simp [Builtin.append_, run_underlying ht, run_underlying hu, Go.sizeOf, typeInfo, hi, h3, hg, hn, hst]

def upd2 (ρ : Nat → Nat) (n b k : Nat) : Nat → Nat := fun i => if i = n then b else if i = n + 1 then k else ρ i

theorem upd2_a (ρ : Nat → Nat) (n b k : Nat) : upd2 ρ n b k n = b := by simp [upd2]
theorem upd2_b (ρ : Nat → Nat) (n b k : Nat) : upd2 ρ n b k (n + 1) = k := by simp [upd2]
theorem upd2_lt {ρ : Nat → Nat} {N b k : Nat} : ∀ n, n < N → upd2 ρ N b k n = ρ n := fun n h => by
  simp only [upd2]; rw [if_neg (by omega), if_neg (by omega)]

theorem SrcV.one {c : Cx} {sz : Nat} {els : List (List AV)} {v : Value} {news : List Value} (h : SrcV P c sz els v news) (hone : els.all (fun l => l.all AV.one) = true) : ∀ u, u ∈ news → u.oneCell' = true := by
  intro u hu
  obtain ⟨k, hk⟩ := List.mem_iff_getElem?.1 hu
  have hkl := len_of_get hk
  rw [h.len] at hkl
  obtain ⟨h1, h2, h3⟩ := place_of hkl
  have hl := List.getElem?_eq_getElem h1
  have hsz := h.wide _ _ hl
  have hy := List.getElem?_eq_getElem (l := els[k / sz]) (i := k % sz) (by rw [hsz]; exact h2)
  have := h.get _ _ _ _ hl hy
  rw [← h3, List.getD_eq_getElem?_getD, hk] at this
  refine one_ok this ?_
  exact List.all_eq_true.1 (List.all_eq_true.1 hone _ (List.mem_of_getElem? hl)) _ (List.mem_of_getElem? hy)

section
variable {tab : TypeId → Option TD} (T : TabOk P tab) {nt N : Nat} {o : Oper} {fr : Frame} {H Hr : Heap}
include T

/-- A row and what is appended to it. -/
theorem append_core {c : Cx} {t u e ty : TypeId} {td ud ed : TD} {ag : Bool} {zs : List Z} {n sz : Nat} {nil : Bool} {els news : List (List AV)} {sv xv : Value} {nv : List Value}
    (ht : tab t = some td) (hk : td.kind = .slice e) (hut : tab u = some ud) (hku : (match ud.kind with | .slice _ => true | .str => true | _ => false) = true) (he : tab e = some ed) (hz : ed.zero = some (ag, zs)) (hzl : zs.length = sz) (hsz : ed.size = sz) (hby : Nat.ble ed.bytes 65536 = true)
    (hst : St c H) (hh : Has n (.row sz nil els) H Hr) (hv : VR c.w c.F c.ρ c.N (.row n nil els.length) sv) (hx : SrcV P c sz news xv nv) (hone : news.all (fun l => l.all AV.one) = true) (hneed : els.length + news.length ≤ 1073741824) :
    ∃ v' c', (Builtin.append_ #[t, u] ty #[sv, xv]).run P c.w = .ok v' c'.w ∧ c'.N = c.N + 2 ∧ St c' ((c.N, .row sz (nil && news.isEmpty) (els ++ news)) :: Hr) ∧ Step c c' ∧ VR c'.w c'.F c'.ρ c'.N (.row c.N (nil && news.isEmpty) (els ++ news).length) v' := by
  obtain ⟨desc, hu', _, hkk⟩ := run_under T ht
  rw [hk] at hkk
  obtain rfl := kind_slice hkk
  obtain ⟨desu, huu, _, hkku⟩ := run_under T hut
  have hd : (∃ e2, desu = .slice e2) ∨ desu = .string := by
    cases hud : ud.kind with
    | slice e' => rw [hud] at hkku; exact .inl ⟨e', kind_slice hkku⟩
    | str => rw [hud] at hkku; exact .inr (kind_str hkku)
    | _ => rw [hud] at hku; simp at hku
  have hby' : ed.bytes ≤ 65536 := Nat.le_of_ble_eq_true hby
  obtain ⟨i, dd, hi, hud, hkd, hsize, hbytes, hzero, _⟩ := tabOf_inv (T e ed he)
  rw [hz] at hzero
  obtain ⟨z, hzi, hzz⟩ := Option.bind_eq_some_iff.1 hzero
  have hzs : z.cells.size = sz := by
    obtain ⟨v, hrun, hzv, _⟩ := run_zero T he hz
    have hr2 := hrun c.w
    simp [zeroValue, typeInfo, hi, hzi] at hr2
    subst hr2
    have := (zeros_ok hzv c.w c.F c.ρ c.N).1
    rw [← this]; simpa using hzl
  rw [hsz] at hsize
  rw [← hsize] at hzs
  -- sizes
  have hneed' : (els.length + news.length) * i.bytes ≤ 140737488355328 := by
    rw [hbytes]
    exact Nat.le_trans (Nat.mul_le_mul hneed hby') (by decide)
  obtain ⟨hn, hval⟩ := hv.row_inv
  obtain ⟨B, Or, hor, hnd, hnF, hsw⟩ := hst.swap hh
  have hone1 := hx.one hone
  have hFk : ∀ (w' : World), (∀ b, b < c.w.heap.size → b ∉ B → w'.heap[b]? = c.w.heap[b]?) → ∀ b, c.F b → c.F b ∧ w'.heap[b]? = c.w.heap[b]? := fun w' hk b hb => ⟨hb, hk b (hst.inF b hb) fun hm => hnF b hm hb⟩
  have hnewget : ∀ (i' : Nat) (l : List AV) (j : Nat) (y : AV), news[i']? = some l → l[j]? = some y → i' < news.length ∧ j < sz ∧ i' * sz + j < nv.length := by
    intro i' l j y hl hy
    have h1 := len_of_get hl
    have h2 := len_of_get hy
    rw [hx.wide i' l hl] at h2
    exact ⟨h1, h2, by rw [hx.len]; exact place_lt h1 h2⟩
  -- a fresh block
  have fresh : ∀ (cap : Nat) (olds : List Value), els.length + news.length ≤ cap → cap ≤ maxLen → olds.length = els.length * sz → (nil && news.isEmpty) = false →
      ∀ (Bs : Nat → Nat → List Nat), (∀ (i j : Nat) (l : List AV) y, els[i]? = some l → l[j]? = some y → CR c.w c.F c.ρ c.N y (olds.getD (i * sz + j) undef) (Bs i j)) →
      (∀ b, b ∈ gather sz els.length Bs → b ∈ B) → (gather sz els.length Bs).Nodup → (∀ (i : Nat) (l : List AV), els[i]? = some l → l.length = sz) →
      ∃ c', c'.w = c.w.drew.alloc (.cells (olds.toArray ++ nv.toArray ++ Builtin.zeroCells z.cells (cap - (els.length + news.length))) e) ∧ c'.N = c.N + 2 ∧ St c' ((c.N, .row sz (nil && news.isEmpty) (els ++ news)) :: Hr) ∧ Step c c' ∧
        VR c'.w c'.F c'.ρ c'.N (.row c.N (nil && news.isEmpty) (els ++ news).length) (.slice (some ⟨c.w.heap.size, 0, none⟩) (els.length + news.length) cap) := by
    intro cap olds h1 h2 h3 h4 Bs h5 h6 h7 h8
    have hsize0 : (olds.toArray ++ nv.toArray ++ Builtin.zeroCells z.cells (cap - (els.length + news.length))).size = cap * sz := by
      simp only [Array.size_append, List.size_toArray, Builtin.zeroCells, Array.size_map, Array.size_range, h3, hx.len, hzs, hsize]
      rw [← Nat.add_mul, ← Nat.add_mul]; congr 1; omega
    generalize hW : c.w.drew.alloc (.cells (olds.toArray ++ nv.toArray ++ Builtin.zeroCells z.cells (cap - (els.length + news.length))) e) = w'
    have hk : ∀ b, b < c.w.heap.size → w'.heap[b]? = c.w.heap[b]? := fun b hb => by rw [← hW]; exact heap_alloc_lt c.w.drew _ hb
    have hF := hFk w' fun b hb _ => hk b hb
    have hnew : w'.heap[c.w.heap.size]? = some (.cells (olds.toArray ++ nv.toArray ++ Builtin.zeroCells z.cells (cap - (els.length + news.length))) e) := by rw [← hW]; exact heap_alloc_new c.w.drew _
    let Bs' : Nat → Nat → List Nat := fun i j => if i < els.length then Bs i j else []
    have hsub : (gather sz (els ++ news).length Bs').Sublist (gather sz els.length Bs) := gather_sub fun i j hi hj => by
      by_cases h : i < els.length
      · exact .inr ⟨h, if_pos h⟩
      · exact .inl (if_neg h)
    have hor' : OR w' c.F (upd2 c.ρ c.N c.w.heap.size cap) (c.N + 2) c.N (.row sz false (els ++ news)) (c.w.heap.size :: gather sz (els ++ news).length Bs') := by
      have := OR.row (w := w') (F := c.F) (ρ := upd2 c.ρ c.N c.w.heap.size cap) (N := c.N + 2) c.N sz (els ++ news) _ e (0, 0) (fun i j => ((olds.toArray ++ nv.toArray ++ Builtin.zeroCells z.cells (cap - (els.length + news.length)))).getD (i * sz + j) undef) Bs' (by omega)
        (by rw [upd2_a]; exact hnew) (free_none _) (by rw [upd2_b]; simpa using h1) (by rw [upd2_b]; exact hsize0) (by rw [upd2_b]; exact h2) ?_ ?_ ?_
      · rw [upd2_a] at this; exact this
      · intro i l hl
        rw [List.getElem?_append] at hl
        split at hl
        · exact h8 i l hl
        · exact hx.wide _ l hl
      · intro i j l y hl hy
        have hi := len_of_get hl
        have hlsz : l.length = sz := by
          rw [List.getElem?_append] at hl
          split at hl
          · exact h8 i l hl
          · exact hx.wide _ l hl
        have hj := len_of_get hy
        rw [hlsz] at hj
        have hp : i * sz + j < (olds.toArray ++ nv.toArray ++ Builtin.zeroCells z.cells (cap - (els.length + news.length))).size := by
          rw [hsize0]; exact place_lt (by simp at hi; omega) hj
        rw [Array.getElem?_eq_getElem hp]; simp only [Array.getD, hp, dif_pos]; rfl
      · intro i j l y hl hy
        have hj := len_of_get hy
        rw [List.getElem?_append] at hl
        split at hl
        · rename_i hi
          have hlz := h8 i l hl
          rw [hlz] at hj
          have hlt := place_lt hi hj
          rw [← h3] at hlt
          have e1 : Bs' i j = Bs i j := if_pos hi
          have e2 : (olds.toArray ++ nv.toArray ++ Builtin.zeroCells z.cells (cap - (els.length + news.length))).getD (i * sz + j) undef = olds.getD (i * sz + j) undef := by
            rw [Array.getD_eq_getD_getElem?, List.getD_eq_getElem?_getD, Array.getElem?_append_left (by simp; omega), Array.getElem?_append_left (by simpa using hlt)]
            simp
          rw [e1, e2]
          refine (h5 i j l y hl hy).mono hF (by omega) upd2_lt fun b hb => hk b ?_
          exact (h5 i j l y hl hy).lt b hb
        · rename_i hi
          have hlz := hx.wide _ l hl
          rw [hlz] at hj
          obtain ⟨g1, g2, g3⟩ := hnewget _ l j y hl hy
          have e1 : Bs' i j = [] := if_neg hi
          have e0 : els.length * sz + ((i - els.length) * sz + j) = i * sz + j := by
            rw [← Nat.add_assoc, ← Nat.add_mul]; congr 2; omega
          have e2 : (olds.toArray ++ nv.toArray ++ Builtin.zeroCells z.cells (cap - (els.length + news.length))).getD (i * sz + j) undef = nv.getD ((i - els.length) * sz + j) undef := by
            rw [Array.getD_eq_getD_getElem?, List.getD_eq_getElem?_getD, Array.getElem?_append_left (by simp; omega), Array.getElem?_append_right (by simp; omega)]
            simp only [List.size_toArray, List.getElem?_toArray]
            congr 2; omega
          rw [e1, e2]
          exact .val _ _ ((hx.get _ j l y hl hy).mono hF (by omega) upd2_lt)
    obtain ⟨g1, g2⟩ := hsw w' (upd2 c.ρ c.N c.w.heap.size cap) (c.N + 2) c.N _ _ (by rw [← hW]; rfl) (by rw [← hW]; rfl) (by rw [← hW]; rfl) (by rw [← hW, World.size_alloc]; exact Nat.le_succ _) (fun b hb _ => hk b hb) (by omega) upd2_lt hor'
      (List.nodup_cons.2 ⟨fun hm => by
        obtain ⟨i, j, hi, hj, hb⟩ := mem_gather.1 (hsub.subset hm)
        have hl := List.getElem?_eq_getElem hi
        have := h8 i _ hl
        have := (h5 i j _ _ hl (List.getElem?_eq_getElem (by rw [this]; exact hj))).lt _ hb
        omega, h7.sublist hsub⟩)
      (fun b hb => by
        rcases List.mem_cons.1 hb with rfl | hb
        · exact .inr (Nat.le_refl _)
        · exact .inl (h6 b (hsub.subset hb)))
    rw [h4]
    refine ⟨_, by rfl, rfl, g1, g2, ?_⟩
    have := VR.row (w := w') (F := c.F) (ρ := upd2 c.ρ c.N c.w.heap.size cap) (N := c.N + 2) c.N (els ++ news).length (by omega)
    rw [upd2_a, upd2_b, List.length_append] at this
    rw [List.length_append]
    exact this
  cases hor with
  | rowNil =>
    rcases hval with ⟨_, _, rfl⟩ | ⟨h, _⟩
    · cases news with
      | nil =>
        refine ⟨.slice none 0 0, ⟨c.w, c.F, c.ρ, c.N + 2, [] ++ Or⟩, ?_, rfl, ?_⟩
        · exact run_append_fits hu' huu hd hi hx.lenv (by rw [hsize]; exact hx.cellsv c.w rfl) (by simp) (by simp)
        · obtain ⟨g1, g2⟩ := hsw c.w c.ρ (c.N + 2) c.N (.row sz true []) [] rfl rfl rfl (Nat.le_refl _) (fun _ _ _ => rfl) (by omega) (fun _ _ => rfl) (.rowNil _ _ (by omega)) (by simp) (fun b hb => by cases hb)
          exact ⟨by simpa using g1, by simpa using g2, by simpa using VR.rowNil c.N (by simp)⟩
      | cons l0 news' =>
        · have hr := run_append_fresh (P := P) (w := c.w) (ty := ty) (base := none) (sLen := 0) (sCap := 0) (olds := #[]) hu' huu hd hi hzi (fun w' _ => by simp [Builtin.firstCells]) hx.lenv (fun w' hw => by rw [hsize]; exact hx.cellsv w' hw) (by simp) (by simp at hneed ⊢; omega) (growslice_fits (by simp) (by simp at hneed' ⊢; omega))
          obtain ⟨c', h1, h2, h3, h4, h5⟩ := fresh (grownCap c.w (l0 :: news').length 0 e) [] (by simpa using (show (l0 :: news').length ≤ grownCap c.w (l0 :: news').length 0 e from by simp [grownCap, Question.cut])) (by
              have hlt := Nat.mod_lt (c.w.tape c.w.drawn (.appendCap (l0 :: news').length 0 e)) (show 0 < 2 ^ 63 - (l0 :: news').length by simp at hneed ⊢; omega)
              simp only [grownCap, Question.cut, maxLen] at hlt ⊢
              simp at hneed; omega) (by simp) (by simp) (fun _ _ => []) (fun i j l y h => by simp at h) (fun b hb => by simp [gather] at hb) (by simp [gather]) (fun i l h => by simp at h)
          refine ⟨_, c', ?_, h2, h3, h4, h5⟩
          rw [h1]
          simpa using hr
    · cases h
  | row _ _ cells cty fz vs Bs _ hb hfree hlen hcsize hmax hszs hcell hcval =>
    rcases hval with ⟨h, _⟩ | ⟨_, rfl⟩
    · cases h
    have hlt := lt_of_heap hb
    by_cases hroom : els.length + news.length ≤ c.ρ (n + 1)
    · -- in place
      have hfit : els.length * sz + nv.length ≤ cells.size := by rw [hx.len, ← Nat.add_mul, hcsize]; exact Nat.mul_le_mul_right _ hroom
      have hrun := run_storeCellsB (P := P) (c.ρ n) cty fz nv cells c.w (els.length * sz) 0 hb hfree (by simpa using hfit) hone1
      rw [Nat.add_zero] at hrun
      have hk : ∀ b, b < c.w.heap.size → b ≠ c.ρ n → (setBlock c.w (c.ρ n) (.cells (putCells cells (els.length * sz) nv) cty fz)).heap[b]? = c.w.heap[b]? := fun b _ hne => by
        rw [setBlock_get _ _ _ _ hlt, if_neg hne]
      have hF : ∀ b, c.F b → c.F b ∧ (setBlock c.w (c.ρ n) (.cells (putCells cells (els.length * sz) nv) cty fz)).heap[b]? = c.w.heap[b]? := fun b hb' =>
        ⟨hb', hk b (hst.inF b hb') fun e => hnF (c.ρ n) (by simp) (e ▸ hb')⟩
      let Bs' : Nat → Nat → List Nat := fun i j => if i < els.length then Bs i j else []
      have hsub : (gather sz (els ++ news).length Bs').Sublist (gather sz els.length Bs) := gather_sub fun i j hi hj => by
        by_cases h : i < els.length
        · exact .inr ⟨h, if_pos h⟩
        · exact .inl (if_neg h)
      have hput := fun k => putCells_get nv cells (els.length * sz) k hfit
      have hor' : OR (setBlock c.w (c.ρ n) (.cells (putCells cells (els.length * sz) nv) cty fz)) c.F (upd2 c.ρ c.N (c.ρ n) (c.ρ (n + 1))) (c.N + 2) c.N (.row sz false (els ++ news)) (c.ρ n :: gather sz (els ++ news).length Bs') := by
        have := OR.row (w := setBlock c.w (c.ρ n) (.cells (putCells cells (els.length * sz) nv) cty fz)) (F := c.F) (ρ := upd2 c.ρ c.N (c.ρ n) (c.ρ (n + 1))) (N := c.N + 2) c.N sz (els ++ news) (putCells cells (els.length * sz) nv) cty fz (fun i j => (putCells cells (els.length * sz) nv).getD (i * sz + j) undef) Bs' (by omega)
          (by rw [upd2_a, setBlock_get _ _ _ _ hlt, if_pos rfl]) (fun o ho => hfree o (by rwa [putCells_size] at ho)) (by rw [upd2_b]; simpa using hroom) (by rw [upd2_b, putCells_size]; exact hcsize) (by rw [upd2_b]; exact hmax) ?_ ?_ ?_
        · rw [upd2_a] at this; exact this
        · intro i l hl
          rw [List.getElem?_append] at hl
          split at hl
          · exact hszs i l hl
          · exact hx.wide _ l hl
        · intro i j l y hl hy
          have hi := len_of_get hl
          have hlsz : l.length = sz := by
            rw [List.getElem?_append] at hl
            split at hl
            · exact hszs i l hl
            · exact hx.wide _ l hl
          have hj := len_of_get hy
          rw [hlsz] at hj
          have hp : i * sz + j < (putCells cells (els.length * sz) nv).size := by
            rw [putCells_size, hcsize]; exact place_lt (by simp at hi; omega) hj
          rw [Array.getElem?_eq_getElem hp]; simp [Array.getD, hp]
        · intro i j l y hl hy
          have hj := len_of_get hy
          rw [List.getElem?_append] at hl
          split at hl
          · rename_i hi
            have hlz := hszs i l hl
            rw [hlz] at hj
            have hlt' := place_lt hi hj
            have e1 : Bs' i j = Bs i j := if_pos hi
            rw [e1, Array.getD_eq_getD_getElem?, hput, if_neg (by omega), hcell i j l y hl hy]
            refine (hcval i j l y hl hy).mono hF (by omega) upd2_lt fun b hb' => hk b ((hcval i j l y hl hy).lt b hb') fun e => ?_
            subst e
            exact (List.nodup_cons.1 hnd).1 (mem_gather.2 ⟨i, j, hi, hj, hb'⟩)
          · rename_i hi
            have hlz := hx.wide _ l hl
            rw [hlz] at hj
            obtain ⟨g1, g2, g3⟩ := hnewget _ l j y hl hy
            have e1 : Bs' i j = [] := if_neg hi
            have e0 : els.length * sz + ((i - els.length) * sz + j) = i * sz + j := by
              rw [← Nat.add_assoc, ← Nat.add_mul]; congr 2; omega
            rw [e1, Array.getD_eq_getD_getElem?, hput, if_pos (by omega), show i * sz + j - els.length * sz = (i - els.length) * sz + j by omega]
            have := hx.get _ j l y hl hy
            rw [List.getD_eq_getElem?_getD] at this
            exact .val _ _ (this.mono hF (by omega) upd2_lt)
      obtain ⟨g1, g2⟩ := hsw (setBlock c.w (c.ρ n) (.cells (putCells cells (els.length * sz) nv) cty fz)) (upd2 c.ρ c.N (c.ρ n) (c.ρ (n + 1))) (c.N + 2) c.N _ _ rfl rfl rfl (by rw [setBlock_size]; exact Nat.le_refl _) (fun b hb' hne => hk b hb' fun e => hne (by simp [e])) (by omega) upd2_lt hor'
        (hnd.sublist (List.Sublist.cons_cons _ hsub))
        (fun b hb' => by
          rcases List.mem_cons.1 hb' with rfl | hb'
          · exact .inl (by simp)
          · exact .inl (List.mem_cons_of_mem _ (hsub.subset hb')))
      refine ⟨.slice (some ⟨c.ρ n, 0, none⟩) (els.length + news.length) (c.ρ (n + 1)), _, ?_, by rfl, by simpa using g1, g2, ?_⟩
      · exact run_append_fits hu' huu hd hi hx.lenv (by rw [hsize]; exact hx.cellsv c.w rfl) hroom (by simpa [add_mk, hsize] using hrun)
      · have := VR.row (w := setBlock c.w (c.ρ n) (.cells (putCells cells (els.length * sz) nv) cty fz)) (F := c.F) (ρ := upd2 c.ρ c.N (c.ρ n) (c.ρ (n + 1))) (N := c.N + 2) c.N (els ++ news).length (by omega)
        rw [upd2_a, upd2_b, List.length_append] at this
        simpa using this
    · -- a new block
      have hm : news ≠ [] := by rintro rfl; simp at hroom; omega
      have hle : els.length * sz ≤ cells.size := by rw [hcsize]; exact Nat.mul_le_mul_right _ hlen
      have holds : ∀ (j : Nat) (v : Value), (cells.toList.take (els.length * sz))[j]? = some v → c.w.cell? ((⟨c.ρ n, 0, none⟩ : Addr).add j) = some v := by
        intro j v hv
        rw [add_mk, Nat.zero_add]
        rw [List.getElem?_take] at hv
        split at hv
        · simp only [World.cell?, hb]; simpa using hv
        · cases hv
      have holl : (cells.toList.take (els.length * sz)).length = els.length * sz := by simp; omega
      have hr := run_append_fresh (P := P) (w := c.w) (ty := ty) (base := some ⟨c.ρ n, 0, none⟩) (sLen := els.length) (sCap := c.ρ (n + 1)) (olds := (cells.toList.take (els.length * sz)).toArray) hu' huu hd hi hzi
        (fun w' hw => run_firstCells_some (P := P) w' i.size els.length ⟨c.ρ n, 0, none⟩ els.length (c.ρ (n + 1)) (cells.toList.take (els.length * sz)) (by rw [holl, hsize]) fun j v hv => by
          rw [World.cell?_of_block (w := c.w) (by rw [hw])]; exact holds j v hv)
        hx.lenv (fun w' hw => by rw [hsize]; exact hx.cellsv w' hw) (by omega) (by omega) (growslice_fits (by omega) hneed')
      obtain ⟨c', h1, h2, h3, h4, h5⟩ := fresh (grownCap c.w (els.length + news.length) (c.ρ (n + 1)) e) (cells.toList.take (els.length * sz)) (by simp [grownCap, Question.cut]) (by
          have hlt := Nat.mod_lt (c.w.tape c.w.drawn (.appendCap (els.length + news.length) (c.ρ (n + 1)) e)) (show 0 < 2 ^ 63 - (els.length + news.length) by omega)
          simp only [grownCap, Question.cut, maxLen] at hlt ⊢
          omega) holl (by simp) Bs (fun i j l y h1 h2 => by
            have hj := len_of_get h2
            rw [hszs i l h1] at hj
            have hi' := len_of_get h1
            rw [List.getD_eq_getElem?_getD, List.getElem?_take, if_pos (place_lt hi' hj), Array.getElem?_toList, hcell i j l y h1 h2]
            exact hcval i j l y h1 h2) (fun b hb' => List.mem_cons_of_mem _ hb') (List.nodup_cons.1 hnd).2 (fun i l h => hszs i l h)
      refine ⟨_, c', ?_, h2, h3, h4, h5⟩
      rw [h1]
      simpa using hr

end
end Go.Sl
