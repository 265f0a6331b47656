/- Frozen slices as lists; bytes and texts; make; copy, clear, cap; type assertions. No condition. -/
import Derived.Test.YtfbagkifhpnfjaaSl15
import Derived.Laws.IdiomStrings
import Derived.Laws.BytesArg
import Derived.Laws.MakeOwn
namespace Go.Sl
open Go
set_option linter.unusedVariables false
set_option linter.unusedSimpArgs false
variable {P : Program}

/-- A list, as a frozen slice. -/
abbrev rowsF {α : Type} (sz : Nat) (nil : Bool) (f : α → List FV) (d : α) (l : List α) : FV := .sl sz nil l.length (fun i => f (l.getD i d))
abbrev byteF (b : UInt8) : List FV := [.int .u8 b.toNat]
abbrev byteA (b : UInt8) : List AV := [.fv (.int .u8 b.toNat)]
abbrev bytesF (nil : Bool) (l : List UInt8) : FV := rowsF 1 nil byteF 0 l

theorem getD_lt {α : Type} {l : List α} {i : Nat} (d : α) (h : i < l.length) : l[i]? = some (l.getD i d) := by
  rw [List.getElem?_eq_getElem h, List.getD_eq_getElem?_getD, List.getElem?_eq_getElem h]; rfl

theorem FR.congr {w : World} {F : Nat → Prop} {sz len len' : Nat} {nil : Bool} {g g' : Nat → List FV} {v : Value} (h : FR w F (.sl sz nil len g) v) (hl : len = len') (hg : ∀ i, i < len → g i = g' i) : FR w F (.sl sz nil len' g') v := by
  subst hl
  cases h with
  | slnil => exact .slnil ..
  | sl _ _ _ a c vs hc hsz hcell hval =>
    exact .sl sz len g' a c vs hc (fun i hi => hg i hi ▸ hsz i hi) (fun i j x hi hx => hcell i j x hi (by rw [hg i hi]; exact hx)) (fun i j x hi hx => hval i j x hi (by rw [hg i hi]; exact hx))

section
variable {tab : TypeId → Option TD} (T : TabOk P tab) {nt N : Nat} {o : Oper} {fr : Frame} {H Hr : Heap}

theorem ARead.congrF {sz len len' : Nat} {nil : Bool} {g g' : Nat → List FV} (h : ARead P nt o N fr H (.fv (.sl sz nil len g))) (hl : len = len') (hg : ∀ i, i < len → g i = g' i) : ARead P nt o N fr H (.fv (.sl sz nil len' g')) := by
  intro c a hN hs
  obtain ⟨v, hr, hv⟩ := h c a hN hs
  exact ⟨v, hr, .fv _ _ (hv.fv_inv.congr hl hg)⟩

include T

/-- l[lo:] -/
theorem ARead.sliceLo {α : Type} {t e : TypeId} {td ed : TD} {x lo : Operand} {sz : Nat} {nil : Bool} {f : α → List FV} {d : α} {L : List α} {k : IntKind} {m : Int} (ho : o.op = .slice t x (some lo) none none) (ht : tab t = some td) (hk : td.kind = .slice e) (he : tab e = some ed) (hsz : ed.size = sz)
    (hx : aev fr x = some (.fv (rowsF sz nil f d L))) (hlo : aev fr lo = some (.fv (.int k m))) (h0 : 0 ≤ m) (h1 : m ≤ L.length) : ARead P nt o N fr H (.fv (rowsF sz nil f d (L.drop m.toNat))) :=
  ARead.congrF (ARead.sliceF T ho ht hk he hsz hx ⟨k, m, hlo, h0, rfl⟩ rfl (by omega) (Nat.le_refl _)) (by simp) (fun i hi => by simp [List.getD_eq_getElem?_getD, List.getElem?_drop])

/-- l[:hi] -/
theorem ARead.sliceHi {α : Type} {t e : TypeId} {td ed : TD} {x hi : Operand} {sz : Nat} {nil : Bool} {f : α → List FV} {d : α} {L : List α} {k : IntKind} {m : Int} (ho : o.op = .slice t x none (some hi) none) (ht : tab t = some td) (hk : td.kind = .slice e) (he : tab e = some ed) (hsz : ed.size = sz)
    (hx : aev fr x = some (.fv (rowsF sz nil f d L))) (hhi : aev fr hi = some (.fv (.int k m))) (h0 : 0 ≤ m) (h1 : m ≤ L.length) : ARead P nt o N fr H (.fv (rowsF sz nil f d (L.take m.toNat))) :=
  ARead.congrF (ARead.sliceF T ho ht hk he hsz hx rfl ⟨k, m, hhi, h0, rfl⟩ (by omega) (by omega)) (by simp; omega) (fun i hi => by
    have : i < m.toNat := by omega
    simp [List.getD_eq_getElem?_getD, List.getElem?_take, this])

/-- l[lo:hi] -/
theorem ARead.sliceLH {α : Type} {t e : TypeId} {td ed : TD} {x lo hi : Operand} {sz : Nat} {nil : Bool} {f : α → List FV} {d : α} {L : List α} {k k' : IntKind} {m m' : Int} (ho : o.op = .slice t x (some lo) (some hi) none) (ht : tab t = some td) (hk : td.kind = .slice e) (he : tab e = some ed) (hsz : ed.size = sz)
    (hx : aev fr x = some (.fv (rowsF sz nil f d L))) (hlo : aev fr lo = some (.fv (.int k m))) (hhi : aev fr hi = some (.fv (.int k' m'))) (h0 : 0 ≤ m) (h01 : m ≤ m') (h1 : m' ≤ L.length) : ARead P nt o N fr H (.fv (rowsF sz nil f d ((L.take m'.toNat).drop m.toNat))) :=
  ARead.congrF (ARead.sliceF T ho ht hk he hsz hx ⟨k, m, hlo, h0, rfl⟩ ⟨k', m', hhi, by omega, rfl⟩ (by omega) (by omega)) (by simp; omega) (fun i hi => by
    have : m.toNat + i < m'.toNat := by omega
    simp [List.getD_eq_getElem?_getD, List.getElem?_take, List.getElem?_drop, this])

theorem kind_u8 {e : TypeId} {ed : TD} (he : tab e = some ed) (hk : ed.kind = .int .u8) : P.underlying e = some (.int .u8) := by
  obtain ⟨desc, hu, _, hkk⟩ := run_under T he
  rw [hk] at hkk
  rw [kind_int hkk] at hu; exact hu

theorem under_slice {t e : TypeId} {td : TD} (ht : tab t = some td) (hk : td.kind = .slice e) : P.underlying t = some (.slice e) := by
  obtain ⟨desc, hu, _, hkk⟩ := run_under T ht
  rw [hk] at hkk
  rw [kind_slice hkk] at hu; exact hu

theorem under_str {t : TypeId} {td : TD} (ht : tab t = some td) (hk : td.kind = .str) : P.underlying t = some .string := by
  obtain ⟨desc, hu, _, hkk⟩ := run_under T ht
  rw [hk] at hkk
  rw [kind_str hkk] at hu; exact hu

/-- string(b), b frozen. -/
theorem ARead.bytesStr {s d e : TypeId} {sd dd ed : TD} {x : Operand} {nil : Bool} {l : List UInt8} (ho : o.op = .convert s d x) (hs : tab s = some sd) (hks : sd.kind = .slice e) (hd : tab d = some dd) (hkd : dd.kind = .str) (he : tab e = some ed) (hke : ed.kind = .int .u8)
    (hx : aev fr x = some (.fv (bytesF nil l))) : ARead P nt o N fr H (.fv (.str l)) := by
  intro c a hN hsit
  have us := under_slice T hs hks
  have ud := under_str T hd hkd
  have ue := kind_u8 T he hke
  have hf := (aev_ok hsit hx).fv_inv
  refine ⟨.string ⟨l.toArray⟩, fun w' hw' => ?_, .fv _ _ (.str _)⟩
  cases nil with
  | true =>
    have hl : l = [] := by
      generalize a.eval x = v at hf
      cases l with
      | nil => rfl
      | cons b l => cases hf
    subst hl
    have hv : a.eval x = .slice none 0 0 := by
      generalize a.eval x = v at hf
      cases hf; rfl
    have := run_convert_bytes_nil (P := P) w' s e us ue 0 0 d ud
    simp only [execOp, ho, hv, Sem.run_bind, this, Result.andThen_ok, Sem.run_pure]
    rfl
  | false =>
    obtain ⟨ad, k, vs, hv, h1, h2, h3, h4⟩ := hf.sl_inv
    have hcell : ∀ (j : Nat) (hj : j < l.length), w'.cell? (ad.add j) = some (.int .u8 (l[j].toNat : Int)) := by
      intro j hj
      have hg : (byteF (l.getD j 0))[0]? = some (.int .u8 (l.getD j 0).toNat) := rfl
      obtain ⟨hF, hc⟩ := h3 j 0 _ hj hg
      have hfr := h4 j 0 _ hj hg
      rw [add_add, Nat.mul_one, Nat.add_zero] at hc
      rw [World.cell?_of_block (w := c.w) (by rw [add_block]; exact hw' _ (.inl hF)), hc]
      have e : l.getD j 0 = l[j] := by rw [List.getD_eq_getElem?_getD, List.getElem?_eq_getElem hj]; rfl
      rw [e] at hfr
      generalize vs j 0 = u at hfr
      cases hfr; rfl
    have := run_convert_bytes_back (P := P) w' s d e ad k l us ue ud hcell
    simp only [execOp, ho, hv, Sem.run_bind, this, Result.andThen_ok, Sem.run_pure]

/-- string(b), b a row. -/
theorem ARead.rowStr {s d e : TypeId} {sd dd ed : TD} {x : Operand} {n : Nat} {nil : Bool} {els : List (List AV)} (l : List UInt8) (ho : o.op = .convert s d x) (hs : tab s = some sd) (hks : sd.kind = .slice e) (hd : tab d = some dd) (hkd : dd.kind = .str) (he : tab e = some ed) (hke : ed.kind = .int .u8)
    (hx : aev fr x = some (.row n nil els.length)) (hh : Has n (.row 1 nil els) H Hr) (hel : els = l.map byteA) : ARead P nt o N fr H (.fv (.str l)) := by
  intro c a hN hsit
  have us := under_slice T hs hks
  have ud := under_str T hd hkd
  have ue := kind_u8 T he hke
  obtain ⟨hn, hv⟩ := (aev_ok hsit hx).row_inv
  obtain ⟨B, Or, hor, _, hp⟩ := hh.split hsit.st.hr
  refine ⟨.string ⟨l.toArray⟩, fun w' hw' => ?_, .fv _ _ (.str _)⟩
  cases hor with
  | rowNil =>
    have hl : l = [] := by cases l with | nil => rfl | cons b l => simp at hel
    subst hl
    rcases hv with ⟨_, _, hv⟩ | ⟨h, _⟩
    · have := run_convert_bytes_nil (P := P) w' s e us ue 0 0 d ud
      simp only [execOp, ho, hv, Sem.run_bind, this, Result.andThen_ok, Sem.run_pure]
      rfl
    · cases h
  | row _ _ cells ty fz vs Bs _ hb hfree hlen hsize hmax hsz hcell hval =>
    rcases hv with ⟨h, _⟩ | ⟨_, hv⟩
    · cases h
    have hmem : c.ρ n ∈ c.Own := hp.mem_iff.2 (List.mem_append_left _ (by simp))
    have hb' : w'.heap[c.ρ n]? = some (.cells cells ty fz) := by rw [hw' _ (.inr hmem)]; exact hb
    have hll : els.length = l.length := by rw [hel]; simp
    have hc : ∀ (j : Nat) (hj : j < l.length), w'.cell? ((⟨c.ρ n, 0, none⟩ : Addr).add j) = some (.int .u8 (l[j].toNat : Int)) := by
      intro j hj
      have hge : els[j]? = some (byteA l[j]) := by rw [hel, List.getElem?_map, List.getElem?_eq_getElem hj]; rfl
      have h1 := hcell j 0 _ _ hge rfl
      have h2 := ((hval j 0 _ _ hge rfl).vr rfl).1.fv_inv
      rw [add_mk, Nat.zero_add]
      simp only [World.cell?, hb']
      rw [Nat.mul_one, Nat.add_zero] at h1
      rw [h1]
      generalize vs j 0 = u at h2
      cases h2; rfl
    rw [hll] at hv
    have := run_convert_bytes_back (P := P) w' s d e ⟨c.ρ n, 0, none⟩ (c.ρ (n + 1)) l us ue ud hc
    simp only [execOp, ho, hv, Sem.run_bind, this, Result.andThen_ok, Sem.run_pure]

/-- []byte(s). -/
theorem AOp.strBytes {s d e : TypeId} {sd dd ed : TD} {x : Operand} {l : List UInt8} (ho : o.op = .convert s d x) (hs : tab s = some sd) (hks : sd.kind = .str) (hd : tab d = some dd) (hkd : dd.kind = .slice e) (he : tab e = some ed) (hke : ed.kind = .int .u8)
    (hx : aev fr x = some (.fv (.str l))) (hsmall : l.length ≤ 1073741824) : AOp P nt o N fr H fun N' r H' => N' = N + 2 ∧ r = .row N false (l.map byteA).length ∧ H' = (N, .row 1 false (l.map byteA)) :: H := by
  intro c a hN hsit next Q hk
  subst hN
  have us := under_str T hs hks
  have ud := under_slice T hd hkd
  have ue := kind_u8 T he hke
  have hv := (aev_ok hsit hx).str_inv
  have hrun := run_bytes_of_string (P := P) c.w s d e ⟨l.toArray⟩ us ud ue
  have hsz0 : (⟨l.toArray⟩ : ByteArray).size = l.length := by simp [ByteArray.size]
  rw [hsz0] at hrun
  generalize hcap : grownCap c.w l.length 0 e = cap at hrun
  have hle : l.length ≤ cap := by rw [← hcap]; simp [grownCap, Question.cut]
  have hmax : cap ≤ maxLen := by
    rw [← hcap]
    have hlt := Nat.mod_lt (c.w.tape c.w.drawn (.appendCap l.length 0 e)) (show 0 < 2 ^ 63 - l.length by omega)
    simp only [grownCap, Question.cut, maxLen] at hlt ⊢
    omega
  have hcs : (bytesRow ⟨l.toArray⟩ cap).size = cap := by simp [bytesRow, ByteArray.size]; omega
  generalize hob : (Obj.cells (bytesRow ⟨l.toArray⟩ cap) e ((bytesRow ⟨l.toArray⟩ cap).size, (bytesRow ⟨l.toArray⟩ cap).size + 1)) = ob at hrun
  have hnew : (c.w.drew.alloc ob).heap[c.w.heap.size]? = some (.cells (bytesRow ⟨l.toArray⟩ cap) e ((bytesRow ⟨l.toArray⟩ cap).size, (bytesRow ⟨l.toArray⟩ cap).size + 1)) := by rw [hob]; exact heap_alloc_new c.w.drew ob
  have hkeep : ∀ b, b < c.w.heap.size → (c.w.drew.alloc ob).heap[b]? = c.w.heap[b]? := fun b hb => heap_alloc_lt c.w.drew ob hb
  have hel : ∀ (i : Nat) l', (l.map byteA)[i]? = some l' → ∃ b, l[i]? = some b ∧ l' = byteA b := fun i l' h => by
    rw [List.getElem?_map, Option.map_eq_some_iff] at h
    obtain ⟨b, hb, rfl⟩ := h
    exact ⟨b, hb, rfl⟩
  have hor : OR (c.w.drew.alloc ob) c.F (upd2 c.ρ c.N c.w.heap.size cap) (c.N + 2) c.N (.row 1 false (l.map byteA)) [c.w.heap.size] := by
    have := OR.row (w := c.w.drew.alloc ob) (F := c.F) (ρ := upd2 c.ρ c.N c.w.heap.size cap) (N := c.N + 2) c.N 1 (l.map byteA) _ e _ (fun i _ => .int .u8 ((l.getD i 0).toNat : Int)) (fun _ _ => []) (by omega)
      (by rw [upd2_a]; exact hnew) (fun o ho h => by omega) (by rw [upd2_b]; simpa using hle) (by rw [upd2_b]; omega) (by rw [upd2_b]; exact hmax)
      (fun i l' h => by obtain ⟨b, _, rfl⟩ := hel i l' h; rfl) ?_ ?_
    · rw [upd2_a, gather_nil] at this; exact this
    · intro i j l' y h1 h2
      obtain ⟨b, hb, rfl⟩ := hel i l' h1
      cases j with
      | zero =>
        have hi := len_of_get hb
        have e1 : l.getD i 0 = b := by rw [List.getD_eq_getElem?_getD, hb]; rfl
        simp only [e1, Nat.mul_one, Nat.add_zero]
        simp only [bytesRow]
        rw [Array.getElem?_append_left (by simpa using hi)]
        simp [hb]
      | succ j => simp at h2
    · intro i j l' y h1 h2
      obtain ⟨b, hb, rfl⟩ := hel i l' h1
      cases j with
      | zero =>
        have e1 : l.getD i 0 = b := by rw [List.getD_eq_getElem?_getD, hb]; rfl
        simp only [e1]
        simp at h2; subst h2
        exact .val _ _ (.fv _ _ (.int ..))
      | succ j => simp at h2
  have hst : St ⟨c.w.drew.alloc ob, c.F, upd2 c.ρ c.N c.w.heap.size cap, c.N + 2, [c.w.heap.size] ++ c.Own⟩ ((c.N, .row 1 false (l.map byteA)) :: H) := by
    refine ⟨.cons _ _ _ _ _ hor (hsit.st.hr.mono (fun b hb => ⟨hb, hkeep b (hsit.st.inF b hb)⟩) (by simp) upd2_lt (fun b hb => hkeep b (hsit.st.hr.lt b hb))), ?_, ?_, ?_⟩
    · exact List.nodup_cons.2 ⟨fun hm => absurd (hsit.st.hr.lt _ hm) (by omega), hsit.st.nodup⟩
    · intro b hb hF
      rcases List.mem_cons.1 hb with rfl | hb
      · exact absurd (hsit.st.inF _ hF) (by omega)
      · exact hsit.st.notF b hb hF
    · intro b hb; have := hsit.st.inF b hb; rw [World.size_alloc]; exact Nat.lt_succ_of_lt this
  have hstep : Step c ⟨c.w.drew.alloc ob, c.F, upd2 c.ρ c.N c.w.heap.size cap, c.N + 2, [c.w.heap.size] ++ c.Own⟩ := by
    exact ⟨rfl, rfl, rfl, by rw [World.size_alloc]; exact Nat.le_succ _, fun b hb _ => hkeep b hb, fun _ h => h, fun _ h => .inl h,
      fun b hb => by rcases List.mem_cons.1 hb with rfl | hb; exact .inr (Nat.le_refl _); exact .inl hb, by simp, upd2_lt⟩
  refine upon_value a next Q (w' := c.w.drew.alloc ob) (v := .slice (some ⟨c.w.heap.size, 0, none⟩) l.length cap) ?_ (hk _ _ _ _ hst hstep ?_ ⟨rfl, rfl, rfl⟩)
  · simp only [execOp, ho, hv, Sem.run_bind, hrun, Result.andThen_ok, Sem.run_pure]
  · have := VR.row (w := c.w.drew.alloc ob) (F := c.F) (ρ := upd2 c.ρ c.N c.w.heap.size cap) (N := c.N + 2) c.N (l.map byteA).length (by omega)
    rw [upd2_a, upd2_b] at this
    simpa using this

end
end Go.Sl
