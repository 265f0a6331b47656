/- Append to a slice whose room is known; bytes of any kind as a text. No condition. -/
import Derived.Test.YtfbagkifhpnfjaaSl19
namespace Go.Sl
open Go
set_option linter.unusedVariables false
set_option linter.unusedSimpArgs false
variable {P : Program}

section
variable {tab : TypeId → Option TD} (T : TabOk P tab) {nt N : Nat} {o : Oper} {fr : Frame} {H Hr : Heap}
include T

/-- What is appended where there is no room: a new row. -/
theorem append_grow {c : Cx} {t u e ty : TypeId} {td ud ed : TD} {ag : Bool} {zs : List Z} {sz : Nat} {olds news : List (List AV)} {base : Option Addr} {sLen sCap : Nat} {xv : Value} {ov nv : List Value}
    (ht : tab t = some td) (hk : td.kind = .slice e) (hut : tab u = some ud) (hku : (match ud.kind with | .slice _ => true | .str => true | _ => false) = true) (he : tab e = some ed) (hz : ed.zero = some (ag, zs)) (hzl : zs.length = sz) (hsz : ed.size = sz) (hby : Nat.ble ed.bytes 65536 = true)
    (hst : St c H) (hs : SrcV P c sz olds (.slice base sLen sCap) ov) (hsl : sLen = olds.length) (hsc : sLen ≤ sCap) (hx : SrcV P c sz news xv nv) (hg : sCap < sLen + news.length) (hneed : olds.length + news.length ≤ 1073741824) :
    ∃ v' c', (Builtin.append_ #[t, u] ty #[.slice base sLen sCap, xv]).run P c.w = .ok v' c'.w ∧ c'.N = c.N + 2 ∧ St c' ((c.N, .row sz false (olds ++ news)) :: H) ∧ Step c c' ∧ VR c'.w c'.F c'.ρ c'.N (.row c.N false (olds ++ news).length) v' := by
  obtain ⟨desc, hu', _, hkk⟩ := run_under T ht
  rw [hk] at hkk
  obtain rfl := kind_slice hkk
  obtain ⟨desu, huu, _, hkku⟩ := run_under T hut
  have hd : (∃ e2, desu = .slice e2) ∨ desu = .string := by
    cases hud : ud.kind with
    | slice e' => rw [hud] at hkku; exact .inl ⟨e', kind_slice hkku⟩
    | str => rw [hud] at hkku; exact .inr (kind_str hkku)
    | _ => rw [hud] at hku; simp at hku
  have hby' : ed.bytes ≤ 65536 := Nat.le_of_ble_eq_true hby
  obtain ⟨i, dd, hi, hud, hkd, hsize, hbytes, hzero, _⟩ := tabOf_inv (T e ed he)
  rw [hz] at hzero
  obtain ⟨z, hzi, hzz⟩ := Option.bind_eq_some_iff.1 hzero
  have hzs : z.cells.size = sz := by
    obtain ⟨v, hrun, hzv, _⟩ := run_zero T he hz
    have hr2 := hrun c.w
    simp [zeroValue, typeInfo, hi, hzi] at hr2
    subst hr2
    have := (zeros_ok hzv c.w c.F c.ρ c.N).1
    rw [← this]; simpa using hzl
  rw [hsz] at hsize
  rw [← hsize] at hzs
  have hneed' : (olds.length + news.length) * i.bytes ≤ 140737488355328 := by
    rw [hbytes]
    exact Nat.le_trans (Nat.mul_le_mul hneed hby') (by decide)
  have hr := run_append_fresh (P := P) (w := c.w) (ty := ty) (base := base) (sLen := sLen) (sCap := sCap) (olds := ov.toArray) (news := nv.toArray) hu' huu hd hi hzi
    (fun w' hw => by have := hs.cellsv w' hw; rw [hsize, hsl]; rw [hsl] at this; exact this) hx.lenv (fun w' hw => by rw [hsize]; exact hx.cellsv w' hw) hg (by omega) (growslice_fits hg (by rw [hsl]; exact hneed'))
  generalize hcap : grownCap c.w (sLen + news.length) sCap e = cap at hr
  have hcap1 : olds.length + news.length ≤ cap := by rw [← hcap, ← hsl]; simp [grownCap, Question.cut]
  have hcap2 : cap ≤ maxLen := by
    have hlt := Nat.mod_lt (c.w.tape c.w.drawn (.appendCap (sLen + news.length) sCap e)) (show 0 < 2 ^ 63 - (sLen + news.length) by omega)
    rw [← hcap]
    simp only [grownCap, Question.cut, maxLen] at hlt ⊢
    omega
  generalize hW : c.w.drew.alloc (.cells (ov.toArray ++ nv.toArray ++ Builtin.zeroCells z.cells (cap - (sLen + news.length))) e) = w' at hr
  have hsize0 : (ov.toArray ++ nv.toArray ++ Builtin.zeroCells z.cells (cap - (sLen + news.length))).size = cap * sz := by
    simp only [Array.size_append, List.size_toArray, Builtin.zeroCells, Array.size_map, Array.size_range, hs.len, hx.len, hzs, hsize]
    rw [← Nat.add_mul, ← Nat.add_mul]; congr 1; omega
  have hk : ∀ b, b < c.w.heap.size → w'.heap[b]? = c.w.heap[b]? := fun b hb => by rw [← hW]; exact heap_alloc_lt c.w.drew _ hb
  have hF : ∀ b, c.F b → c.F b ∧ w'.heap[b]? = c.w.heap[b]? := fun b hb => ⟨hb, hk b (hst.inF b hb)⟩
  have hnew : w'.heap[c.w.heap.size]? = some (.cells (ov.toArray ++ nv.toArray ++ Builtin.zeroCells z.cells (cap - (sLen + news.length))) e) := by rw [← hW]; exact heap_alloc_new c.w.drew _
  have hsz' : w'.heap.size = c.w.heap.size + 1 := by rw [← hW]; exact World.size_alloc ..
  have wide : ∀ (i : Nat) (l : List AV), (olds ++ news)[i]? = some l → l.length = sz := fun i l hl => by
    rw [List.getElem?_append] at hl
    split at hl
    · exact hs.wide i l hl
    · exact hx.wide _ l hl
  have hor : OR w' c.F (upd2 c.ρ c.N c.w.heap.size cap) (c.N + 2) c.N (.row sz false (olds ++ news)) (c.w.heap.size :: gather sz (olds ++ news).length (fun _ _ => [])) := by
    have := OR.row (w := w') (F := c.F) (ρ := upd2 c.ρ c.N c.w.heap.size cap) (N := c.N + 2) c.N sz (olds ++ news) _ e (0, 0) (fun i j => ((ov.toArray ++ nv.toArray ++ Builtin.zeroCells z.cells (cap - (sLen + news.length)))).getD (i * sz + j) undef) (fun _ _ => []) (by omega)
      (by rw [upd2_a]; exact hnew) (free_none _) (by rw [upd2_b]; simpa using hcap1) (by rw [upd2_b]; exact hsize0) (by rw [upd2_b]; exact hcap2) wide ?_ ?_
    · rw [upd2_a] at this; exact this
    · intro i j l y hl hy
      have hi := len_of_get hl
      have hj := len_of_get hy
      rw [wide i l hl] at hj
      have hp : i * sz + j < (ov.toArray ++ nv.toArray ++ Builtin.zeroCells z.cells (cap - (sLen + news.length))).size := by
        rw [hsize0]; exact place_lt (by simp at hi; omega) hj
      rw [Array.getElem?_eq_getElem hp]; simp only [Array.getD, hp, dif_pos]; rfl
    · intro i j l y hl hy
      have hlz := wide i l hl
      have hj := len_of_get hy
      rw [hlz] at hj
      rw [List.getElem?_append] at hl
      refine .val _ _ ?_
      split at hl
      · rename_i hi
        have hlt := place_lt hi hj
        have e2 : (ov.toArray ++ nv.toArray ++ Builtin.zeroCells z.cells (cap - (sLen + news.length))).getD (i * sz + j) undef = ov.getD (i * sz + j) undef := by
          have hov := hs.len
          rw [Array.getD_eq_getD_getElem?, List.getD_eq_getElem?_getD, Array.getElem?_append_left (by simp; omega), Array.getElem?_append_left (by simp; omega)]
          simp
        rw [e2]
        exact (hs.get i j l y hl hy).mono hF (by omega) upd2_lt
      · rename_i hi
        have g1 := len_of_get hl
        have g2 := place_lt g1 hj
        have hov := hs.len
        have hnv := hx.len
        have e0 : olds.length * sz + ((i - olds.length) * sz + j) = i * sz + j := by
          rw [← Nat.add_assoc, ← Nat.add_mul]; congr 2; omega
        have e2 : (ov.toArray ++ nv.toArray ++ Builtin.zeroCells z.cells (cap - (sLen + news.length))).getD (i * sz + j) undef = nv.getD ((i - olds.length) * sz + j) undef := by
          rw [Array.getD_eq_getD_getElem?, List.getD_eq_getElem?_getD, Array.getElem?_append_left (by simp; omega), Array.getElem?_append_right (by simp; omega)]
          simp only [List.size_toArray, List.getElem?_toArray]
          congr 2; omega
        rw [e2]
        exact (hx.get _ j l y hl hy).mono hF (by omega) upd2_lt
  rw [gather_nil] at hor
  refine ⟨_, ⟨w', c.F, upd2 c.ρ c.N c.w.heap.size cap, c.N + 2, [c.w.heap.size] ++ c.Own⟩, hr, rfl, ⟨.cons _ _ _ _ _ hor (hst.hr.mono hF (by simp) upd2_lt fun b hb => hk b (hst.hr.lt b hb)), ?_, ?_, ?_⟩, ?_, ?_⟩
  · show (c.w.heap.size :: c.Own).Nodup
    exact List.nodup_cons.2 ⟨fun hm => absurd (hst.hr.lt _ hm) (by omega), hst.nodup⟩
  · intro b hb hFb
    have hlt := hst.inF b hFb
    rcases List.mem_append.1 hb with hb | hb
    · simp at hb; omega
    · exact hst.notF b hb hFb
  · intro b hb
    have := hst.inF b hb
    show b < w'.heap.size
    omega
  · refine ⟨by rw [← hW]; rfl, by rw [← hW]; rfl, by rw [← hW]; rfl, by show c.w.heap.size ≤ w'.heap.size; omega, fun b hb _ => hk b hb, fun _ h => h, fun _ h => .inl h, fun b hb => ?_, by simp, upd2_lt⟩
    rcases List.mem_append.1 hb with hb | hb
    · simp at hb; exact .inr (by omega)
    · exact .inl hb
  · have := VR.row (w := w') (F := c.F) (ρ := upd2 c.ρ c.N c.w.heap.size cap) (N := c.N + 2) c.N (olds ++ news).length (by omega)
    rw [upd2_a, upd2_b, List.length_append, ← hsl] at this
    rw [List.length_append, ← hsl]
    exact this

/-- Append to a slice of an object that has no room. -/
theorem AOp.appendGrow {s x : Operand} {t e : TypeId} {td ed : TD} {ag : Bool} {zs : List Z} {n i len cap len2 : Nat} {g : Nat → List AV} {tight : Bool} {olds news : List (List AV)} (ho : o.op = .call { callee := .builtin .append, args := #[s, x], argTypes := #[t, t] })
    (ht : tab t = some td) (hk : td.kind = .slice e) (he : tab e = some ed) (hz : ed.zero = some (ag, zs)) (hzl : zs.length = ed.size) (hby : Nat.ble ed.bytes 65536 = true)
    (hs : aev fr s = some (.sl n ed.size i len (some cap))) (hsrc : ASrc fr H s ed.size olds) (hol : olds.length = len) (hone' : olds.all (fun l => l.all AV.one) = true) (hx : ASrc fr H x ed.size news) (hone : news.all (fun l => l.all AV.one) = true)
    (hg : cap < len + news.length) (hneed : len + news.length ≤ 1073741824) :
    AOp P nt o N fr H fun N' r H' => N' = N + 2 ∧ r = .row N false (olds ++ news).length ∧ H' = (N, .row ed.size false (olds ++ news)) :: H := by
  intro c a hN hsit next Q hkk
  subst hN
  obtain ⟨nv, hx'⟩ := hx.read hone hsit
  obtain ⟨ov, hs'⟩ := hsrc.read hone' hsit
  obtain ⟨ad, k, hv, hn, hlk, hcap, had⟩ := (aev_ok hsit hs).sl_inv
  have hkc := hcap cap rfl
  subst hkc
  rw [hv] at hs'
  obtain ⟨v', c', hrun, h1, h2, h3, h4⟩ := append_grow (ty := o.type) T ht hk ht (by rw [hk]) he hz hzl rfl hby hsit.st hs'.toV hol.symm hlk hx'.toV hg (by omega)
  exact upon_value a next Q (append_op (c := c) ho hv rfl hrun) (hkk _ c' _ _ h2 h3 h4 ⟨h1, rfl, rfl⟩)

/-- Append to a slice of an object that has room. -/
theorem AOp.appendFit {s x : Operand} {t e : TypeId} {td ed : TD} {n i len cap len2 : Nat} {g : Nat → List AV} {tight : Bool} {news : List (List AV)} (ho : o.op = .call { callee := .builtin .append, args := #[s, x], argTypes := #[t, t] })
    (ht : tab t = some td) (hk : td.kind = .slice e) (he : tab e = some ed)
    (hs : aev fr s = some (.sl n ed.size i len (some cap))) (hh : Has n (.arr ed.size len2 g tight) H Hr) (hx : ASrc fr H x ed.size news) (hone : news.all (fun l => l.all AV.one) = true)
    (hc : 0 < cap) (hfit : len + news.length ≤ cap) (hi : i + len + news.length ≤ len2) :
    AOp P nt o N fr H fun N' r H' => N' = N ∧ r = .sl n ed.size i (len + news.length) (some cap) ∧ H' = (n, .arr ed.size len2 (putRow g (i + len) news) tight) :: Hr := by
  intro c a hN hsit next Q hkk
  subst hN
  obtain ⟨nv, hx'⟩ := hx.read hone hsit
  obtain ⟨ad, k, hv, hn, hlk, hcap, had⟩ := (aev_ok hsit hs).sl_inv
  have hkc := hcap cap rfl
  subst hkc
  have hu := under_slice T ht hk
  obtain ⟨inf, dd, hi', hud, hkd, hsize, hbytes, hzero, _⟩ := tabOf_inv (T e ed he)
  obtain ⟨c', hrun, h1, h2, h3⟩ := St.putRow (P := P) (i := i + len) (els := news) (vals := nv) hsit.st hh hn hi hx'.len (hx'.toV (P := P) |>.one hone) hx'.wide hx'.get
  have hst : (storeCells (ad.add (len * inf.size)) nv.toArray.toList).run P c.w = .ok () c'.w := by
    rw [had hc, add_mk, hsize, ← Nat.add_mul]; exact hrun
  have hr := run_append_fits (P := P) (ty := o.type) (base := some ad) hu hu (.inl ⟨e, rfl⟩) hi' hx'.toV.lenv (by rw [hsize]; exact hx'.toV.cellsv c.w rfl) hfit hst
  refine upon_value a next Q (append_op (c := c) ho hv rfl hr) (hkk _ c' _ _ h2 h3 (.sl _ _ _ _ _ _ _ (by rw [h1]; exact hn) hfit (fun q hq => by cases hq; rfl) fun h0 => by rw [had h0, h3.same n hn]) ⟨h1, rfl, rfl⟩)

/-- Append to an empty slice that has no room. -/
theorem AOp.appendSl0 {s x : Operand} {t e : TypeId} {td ed : TD} {ag : Bool} {zs : List Z} {sz0 : Nat} {news : List (List AV)} (ho : o.op = .call { callee := .builtin .append, args := #[s, x], argTypes := #[t, t] })
    (ht : tab t = some td) (hk : td.kind = .slice e) (he : tab e = some ed) (hz : ed.zero = some (ag, zs)) (hzl : zs.length = ed.size) (hby : Nat.ble ed.bytes 65536 = true)
    (hs : aev fr s = some (.fv (.sl0 sz0))) (hx : ASrc fr H x ed.size news) (hone : news.all (fun l => l.all AV.one) = true) (hne : news.isEmpty = false) (hneed : news.length ≤ 1073741824) :
    AOp P nt o N fr H fun N' r H' => N' = N + 2 ∧ r = .row N false news.length ∧ H' = (N, .row ed.size false news) :: H := by
  intro c a hN hsit next Q hkk
  subst hN
  obtain ⟨nv, hx'⟩ := hx.read hone hsit
  have hv := (aev_ok hsit hs).fv_inv
  generalize hve : a.eval s = v at hv
  cases hv with
  | sl0 _ ad =>
    have hs' : SrcS c ed.size [] (.slice (some ad) 0 0) [] := ⟨.inr ⟨ad, 0, rfl, fun j u hu => by simp at hu⟩, by simp, fun i l hl => by simp at hl, fun i j l y hl => by simp at hl⟩
    have hpos : 0 < news.length := by cases news with | nil => cases hne | cons => simp
    obtain ⟨v', c', hrun, h1, h2, h3, h4⟩ := append_grow (ty := o.type) T ht hk ht (by rw [hk]) he hz hzl rfl hby hsit.st hs'.toV rfl (Nat.le_refl _) hx'.toV (by omega) (by simpa using hneed)
    exact upon_value a next Q (append_op (c := c) ho hve rfl hrun) (hkk _ c' _ _ (by simpa using h2) h3 (by simpa using h4) ⟨h1, rfl, rfl⟩)

theorem AOp.appendSl0nil {s x : Operand} {t e : TypeId} {td ed : TD} {sz0 : Nat} (ho : o.op = .call { callee := .builtin .append, args := #[s, x], argTypes := #[t, t] })
    (ht : tab t = some td) (hk : td.kind = .slice e) (he : tab e = some ed) (hs : aev fr s = some (.fv (.sl0 sz0))) (hx : ASrc fr H x ed.size []) :
    AOp P nt o N fr H fun N' r H' => N' = N ∧ r = .fv (.sl0 sz0) ∧ H' = H := by
  intro c a hN hsit next Q hkk
  obtain ⟨nv, hx'⟩ := hx.read rfl hsit
  have hu := under_slice T ht hk
  obtain ⟨inf, dd, hi', hud, hkd, hsize, _⟩ := tabOf_inv (T e ed he)
  have hv := (aev_ok hsit hs).fv_inv
  generalize hve : a.eval s = v at hv
  cases hv with
  | sl0 _ ad =>
    have hnv : nv = [] := List.eq_nil_of_length_eq_zero (by rw [hx'.len]; simp)
    subst hnv
    have hr := run_append_fits (P := P) (w := c.w) (w1 := c.w) (ty := o.type) (base := some ad) (sLen := 0) (sCap := 0) (n := 0) hu hu (.inl ⟨e, rfl⟩) hi' hx'.toV.lenv (by rw [hsize]; exact hx'.toV.cellsv c.w rfl) (Nat.le_refl _) (by simp [storeCells])
    exact upon_value a next Q (append_op (c := c) ho hve rfl hr) (hkk _ c _ _ hsit.st (Step.refl c) (.fv _ _ (.sl0 _ _)) ⟨hN, rfl, rfl⟩)

/-- string(b), b whatever bytes can be read. -/
theorem AOp.srcStr {s d e : TypeId} {sd dd ed : TD} {x : Operand} {els : List (List AV)} (l : List UInt8) (ho : o.op = .convert s d x) (hs : tab s = some sd) (hks : sd.kind = .slice e) (hd : tab d = some dd) (hkd : dd.kind = .str) (he : tab e = some ed) (hke : ed.kind = .int .u8)
    (hx : ASrc fr H x 1 els) (hel : els = l.map byteA) : AOp P nt o N fr H fun N' r H' => N' = N ∧ r = .fv (.str l) ∧ H' = H := by
  intro c a hN hsit next Q hkk
  subst hel
  have us := under_slice T hs hks
  have ud := under_str T hd hkd
  have ue := kind_u8 T he hke
  obtain ⟨nv, hsrc⟩ := hx.read (by simp [AV.one]) hsit
  refine upon_value a next Q (w' := c.w) (v := .string ⟨l.toArray⟩) ?_ (hkk _ c _ _ hsit.st (Step.refl c) (.fv _ _ (.str _)) ⟨hN, rfl, rfl⟩)
  rcases hsrc.val with ⟨hv, hnil⟩ | ⟨ad, k, hv, hc⟩
  · have hl : l = [] := by cases l with | nil => rfl | cons b l => simp at hnil
    subst hl
    have := run_convert_bytes_nil (P := P) c.w s e us ue 0 0 d ud
    simp only [execOp, ho, hv, Sem.run_bind, this, Result.andThen_ok, Sem.run_pure]
    rfl
  · have hcc : ∀ (j : Nat) (hj : j < l.length), c.w.cell? (ad.add j) = some (.int .u8 (l[j].toNat : Int)) := by
      intro j hj
      have hge : (l.map byteA)[j]? = some (byteA l[j]) := by rw [List.getElem?_map, List.getElem?_eq_getElem hj]; rfl
      have h2 := (hsrc.get j 0 _ _ hge rfl).fv_inv
      have hlen := hsrc.len
      have hjn : j < nv.length := by rw [hlen]; simpa using hj
      rw [Nat.mul_one, Nat.add_zero, List.getD_eq_getElem?_getD, List.getElem?_eq_getElem hjn] at h2
      have h3 := hc j _ (List.getElem?_eq_getElem hjn)
      rw [h3]
      generalize nv[j] = u at h2
      simp at h2
      cases h2; rfl
    rw [List.length_map] at hv
    have := run_convert_bytes_back (P := P) c.w s d e ad k l us ue ud hcc
    simp only [execOp, ho, hv, Sem.run_bind, this, Result.andThen_ok, Sem.run_pure]

end
end Go.Sl
