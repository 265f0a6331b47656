/- Values built of parts; calls; a function's contract out of its body. No condition. -/
import Derived.Test.YtfbagkifhpnfjaaSl9
namespace Go.Sl
open Go
set_option linter.unusedVariables false
set_option linter.unusedSimpArgs false
variable {P : Program}

theorem zip_put : ∀ (l : List Value) (k off : Nat) (cs : Array Value), (l.zipIdx k).foldl (fun cs (p : Value × Nat) => cs.setIfInBounds (off + p.2) p.1) cs = putCells cs (off + k) l
  | [], k, off, cs => rfl
  | v :: l, k, off, cs => by
    simp only [List.zipIdx_cons, List.foldl_cons, putCells]
    rw [zip_put l (k + 1) off]; rfl

theorem flat_len {α : Type} : ∀ (els : List (List α)) (s : Nat), (∀ l, l ∈ els → l.length = s) → els.flatten.length = els.length * s
  | [], s, _ => by simp
  | l :: els, s, h => by
    rw [List.flatten_cons, List.length_append, flat_len els s fun x hx => h x (List.mem_cons_of_mem _ hx), h l (List.mem_cons_self ..), List.length_cons, Nat.add_mul]; omega

theorem flat_get {α : Type} : ∀ (els : List (List α)) (s : Nat), (∀ l, l ∈ els → l.length = s) → ∀ i j, j < s → els.flatten[i * s + j]? = (els.getD i [])[j]?
  | [], s, _, i, j, _ => by simp
  | l :: els, s, h, i, j, hj => by
    have hl := h l (List.mem_cons_self ..)
    rw [List.flatten_cons]
    cases i with
    | zero => rw [Nat.zero_mul, Nat.zero_add, List.getElem?_append_left (by omega)]; rfl
    | succ i =>
      rw [Nat.succ_mul, List.getElem?_append_right (by omega), show i * s + s + j - l.length = i * s + j by omega]
      have := flat_get els s (fun x hx => h x (List.mem_cons_of_mem _ hx)) i j hj
      simpa using this

/-- Parts are laid into cells. -/
def afill (place : Nat → Option (Nat × Nat)) : List AV → List (Nat × AV) → Option (List AV)
  | cells, [] => some cells
  | cells, (i, x) :: rest =>
    match place i with
    | none => none
    | some (off, size) => if (acells x).length = size ∧ off + size ≤ cells.length ∧ x.sound = true then afill place (setCells cells off (acells x)) rest else none

theorem fill_ok {w : World} {F : Nat → Prop} {ρ : Nat → Nat} {N : Nat} {place : Nat → Option (Nat × Nat)} : ∀ (parts : List (Nat × AV)) (vparts : List (Nat × Value)) (cells r : List AV) (vs : Array Value),
    afill place cells parts = some r → parts.length = vparts.length → (∀ (j : Nat) p q, parts[j]? = some p → vparts[j]? = some q → p.1 = q.1 ∧ VR w F ρ N p.2 q.2) →
    cells.length = vs.size → (∀ (j : Nat) (x : AV), cells[j]? = some x → VR w F ρ N x (vs.getD j undef)) →
    ∃ vs', Instr.fill place vs vparts = some vs' ∧ r.length = vs'.size ∧ ∀ (j : Nat) (x : AV), r[j]? = some x → VR w F ρ N x (vs'.getD j undef)
  | [], [], cells, r, vs, h, _, _, hl, hv => by simp [afill] at h; subst h; exact ⟨vs, rfl, hl, hv⟩
  | [], _ :: _, _, _, _, _, hlen, _, _, _ => by simp at hlen
  | _ :: _, [], _, _, _, _, hlen, _, _, _ => by simp at hlen
  | (i, x) :: parts, (i', v) :: vparts, cells, r, vs, h, hlen, hp, hl, hv => by
    obtain ⟨hii, hx⟩ := hp 0 _ _ rfl rfl
    simp only at hii hx
    subst hii
    simp only [afill] at h
    cases hpl : place i with
    | none => rw [hpl] at h; simp at h
    | some q =>
      obtain ⟨off, size⟩ := q
      rw [hpl] at h
      simp only at h
      split at h
      · rename_i hc
        obtain ⟨h1, h2, h3⟩ := hc
        obtain ⟨hcl, hcv⟩ := acells_ok hx h3
        have hsz : v.cells.size = size := by omega
        have hrec := fill_ok parts vparts (setCells cells off (acells x)) r (putCells vs off v.cells.toList) h (by simpa using hlen) (fun j p q hp1 hq1 => hp (j + 1) p q (by simpa using hp1) (by simpa using hq1))
          (by rw [setCells_len, putCells_size]; exact hl)
          (fun j y hy => by
            have hg := putCells_get v.cells.toList vs off j (by simp; omega)
            rw [Array.getD_eq_getD_getElem?, hg]
            simp only [Array.length_toList]
            rcases setCells_get _ _ _ _ _ hy with ⟨g1, g2, g3⟩ | ⟨g1, g2⟩
            · rw [if_pos (by omega)]
              have := hcv _ _ g3
              rw [Array.getD_eq_getD_getElem?] at this
              simpa using this
            · rw [if_neg (by omega)]
              have := hv _ _ g2
              rwa [Array.getD_eq_getD_getElem?] at this)
        obtain ⟨vs', e1, e2, e3⟩ := hrec
        refine ⟨vs', ?_, e2, e3⟩
        simp only [Instr.fill, hpl]
        have hcond : ¬ ((decide (v.cells.size ≠ size) || decide (off + v.cells.size > vs.size)) = true) := by simp; omega
        rw [if_neg hcond]
        have hfold : v.cells.zipIdx.foldl (fun cs (x : Value × Nat) => match x with | (c, j) => cs.setIfInBounds (off + j) c) vs = putCells vs off v.cells.toList := by
          rw [← Array.foldl_toList, Array.toList_zipIdx]
          exact zip_put v.cells.toList 0 off vs
        rw [hfold]; exact e1
      · simp at h
termination_by parts => parts.length

theorem mapM_parts {fr : Frame} {a : Act} {c : Cx} {nt : Nat} {H : Heap} (hs : Sit nt c a fr H) {parts : Array (Nat × Operand)} {ps : List (Nat × AV)} (h : parts.toList.mapM (fun p => (aev fr p.2).map fun x => (p.1, x)) = some ps) :
    ps.length = (parts.map fun (p : Nat × Operand) => (p.1, a.eval p.2)).toList.length ∧
    ∀ (j : Nat) p q, ps[j]? = some p → (parts.map fun (p : Nat × Operand) => (p.1, a.eval p.2)).toList[j]? = some q → p.1 = q.1 ∧ VR c.w c.F c.ρ c.N p.2 q.2 := by
  obtain ⟨h1, h2⟩ := mapM_get h
  refine ⟨by simpa using h1.symm, fun j p q hp hq => ?_⟩
  obtain ⟨y, hy, hf⟩ := h2 j p hp
  obtain ⟨x, hx, rfl⟩ := Option.map_eq_some_iff.1 hf
  simp only [Array.toList_map, List.getElem?_map, hy, Option.map_some, Option.some.injEq] at hq
  subst hq
  exact ⟨rfl, aev_ok hs hx⟩

/-- Where the parts of a struct's, or an array's, literal go. -/
def placeOf (tab : TypeId → Option TD) (td : TD) (i : Nat) : Option (Nat × Nat) :=
  match td.kind with
  | .struct fs => (fs[i]?).map fun d => (d.off, d.size)
  | .arr _ e => (tab e).map fun ed => (i * ed.size, ed.size)
  | _ => none

section
variable {tab : TypeId → Option TD} (T : TabOk P tab) {nt N : Nat} {o : Oper} {fr : Frame} {H Hr : Heap}
include T

omit T in
theorem run_mapM {α β : Type} {f : α → Sem β} {g : α → β} {w : World} : ∀ (l : List α), (∀ x, x ∈ l → (f x).run P w = .ok (g x) w) → (l.mapM f).run P w = .ok (l.map g) w
  | [], _ => by simp
  | x :: l, h => by
    rw [List.mapM_cons]
    simp only [Sem.run_bind, h x (List.mem_cons_self ..), Result.andThen_ok, run_mapM l fun y hy => h y (List.mem_cons_of_mem _ hy), Sem.run_pure, List.map_cons]

omit T in
theorem run_places {fs : Array Field} {l : List FD} (h : fs.toList.mapM (fun f => (P.info? f.type).map fun i => (⟨f.offset, i.size, f.type, f.name == "_"⟩ : FD)) = some l) :
    ∃ places : Array (Nat × Nat), (∀ w, (fs.mapM fun f => (do pure (f.offset, ← Go.sizeOf f.type) : Sem (Nat × Nat))).run P w = .ok places w) ∧ ∀ i : Nat, places[i]? = (l[i]?).map fun d : FD => (d.off, d.size) := by
  refine ⟨(l.map fun d : FD => (d.off, d.size)).toArray, fun w => ?_, fun i => by simp⟩
  rw [Array.mapM_eq_mapM_toList]
  have key : ∀ (fl : List Field) (l : List FD), fl.mapM (fun f => (P.info? f.type).map fun i => (⟨f.offset, i.size, f.type, f.name == "_"⟩ : FD)) = some l →
      (fl.mapM fun f => (do pure (f.offset, ← Go.sizeOf f.type) : Sem (Nat × Nat))).run P w = .ok (l.map fun d : FD => (d.off, d.size)) w := by
    intro fl
    induction fl with
    | nil => intro l h; simp at h; subst h; simp
    | cons f fl ih =>
      intro l h
      simp only [List.mapM_cons, Option.pure_def, Option.bind_eq_bind, Option.bind_eq_some_iff] at h
      obtain ⟨d, hd, r, hr, h⟩ := h
      simp at h; subst h
      obtain ⟨inf, hinf, rfl⟩ := Option.map_eq_some_iff.1 hd
      rw [List.mapM_cons]
      have hsz := run_info (P := P) (t := f.type) (k := inf.size) (by simp [hinf]) w
      simp only [Sem.run_bind, hsz, Result.andThen_ok, Sem.run_pure, ih r hr, List.map_cons]
  rw [Sem.run_map, key _ _ h]; rfl

/-- A struct's or an array's literal. -/
theorem ARead.build {t : TypeId} {td : TD} {parts : Array (Nat × Operand)} {ps : List (Nat × AV)} {ag : Bool} {zs : List Z} {cs : List AV} (ho : o.op = .build t parts) (ht : tab t = some td) (hk : td.kind.agg = true) (hel : (match td.kind with | .arr _ e => (tab e).isSome | _ => true) = true) (hz : td.zero = some (ag, zs))
    (hp : parts.toList.mapM (fun p => (aev fr p.2).map fun x => (p.1, x)) = some ps) (hf : afill (placeOf tab td) (zs.map fun z => AV.fv z.fv) ps = some cs) : ARead P nt o N fr H (.agg cs) := by
  intro c a hN hs
  subst hN
  obtain ⟨v, hrun, hzv, _⟩ := run_zero T ht hz
  obtain ⟨hl, hv⟩ := zeros_ok hzv c.w c.F c.ρ c.N
  obtain ⟨h1, h2⟩ := mapM_parts hs hp
  obtain ⟨desc, _, hu, hkk⟩ := run_under T ht
  obtain ⟨vs', e1, e2, e3⟩ := fill_ok ps _ _ cs v.cells hf h1 h2 (by simpa using hl) hv
  refine ⟨.agg vs', fun w' hw' => ?_, .agg _ _ e2 e3⟩
  cases hkd : td.kind with
  | struct fs =>
    rw [hkd] at hkk
    obtain ⟨fl, rfl, hm⟩ := kind_struct hkk
    obtain ⟨places, hpl, hpi⟩ := run_places hm
    have hpe : placeOf tab td = fun i => places[i]? := by funext i; simp [placeOf, hkd, hpi]
    rw [hpe] at e1
    simp only [execOp, ho, Instr.build, Sem.run_bind, hrun, hu, Result.andThen_ok, hpl]
    rw [e1]; rfl
  | arr m e =>
    rw [hkd] at hkk
    obtain rfl := kind_arr hkk
    cases hte : tab e with
    | none => simp [hkd, hte] at hel
    | some ed =>
      have hes := run_sizeOf' T hte
      have hpe : placeOf tab td = fun i => some (i * ed.size, ed.size) := by funext i; simp [placeOf, hkd, hte]
      rw [hpe] at e1
      simp only [execOp, ho, Instr.build, Sem.run_bind, hrun, hu, Result.andThen_ok, hes]
      rw [e1]; rfl
  | _ => rw [hkd] at hk; simp [TK.agg] at hk

/-- The elements of a slice's literal, all told. -/
theorem AOp.buildSlice {t e : TypeId} {td ed : TD} {len : Nat} {parts : Array (Nat × Operand)} {ps : List (Nat × AV)} {els : List (List AV)} {ag : Bool} {zs : List Z} (ho : o.op = .buildSlice t len parts) (ht : tab t = some td) (hkd : td.kind = .slice e) (he : tab e = some ed)
    (hz : ed.zero = some (ag, zs)) (hp : parts.toList.mapM (fun p => (aev fr p.2).map fun x => (p.1, x)) = some ps) (hzl : zs.length = ed.size)
    (hf : afill (fun i => some (i * ed.size, ed.size)) (List.replicate len (zs.map fun z => AV.fv z.fv)).flatten ps = some els.flatten) (hels : els.length = len) (hel : els.all (fun l => l.length == ed.size) = true) (hsmall : len * ed.size ≤ 16777216) (hpos : len * ed.size ≠ 0) :
    AOp P nt o N fr H fun N' r H' => N' = N + 1 ∧ r = .sl N ed.size 0 len (some len) ∧ H' = (N, .arr ed.size len (fun i => els.getD i []) true) :: H := by
  intro c a hN hs next Q hk
  subst hN
  obtain ⟨v, hrun, hzv, _⟩ := run_zero T he hz
  obtain ⟨hl, hv⟩ := zeros_ok hzv c.w c.F c.ρ c.N
  obtain ⟨h1, h2⟩ := mapM_parts hs hp
  obtain ⟨desc, _, hu, hkk⟩ := run_under T ht
  rw [hkd] at hkk
  obtain rfl := kind_slice hkk
  have hes := run_sizeOf' T he
  have hvs : v.cells.size = ed.size := by rw [← hl, hzl]
  have hzcl : (zs.map fun z => AV.fv z.fv).length = ed.size := by simp [hzl]
  have hlen0 : ((List.replicate len (zs.map fun z => AV.fv z.fv)).flatten).length = len * ed.size := by simp [hzl]
  have hcells : ∀ (j : Nat) (x : AV), ((List.replicate len (zs.map fun z => AV.fv z.fv)).flatten)[j]? = some x → VR c.w c.F c.ρ c.N x (((Array.range (len * ed.size)).map (v.cells[· % v.cells.size]!)).getD j undef) := by
    intro j x hx
    have hj := len_of_get hx
    rw [hlen0] at hj
    have hpos' : 0 < ed.size := by
      rcases Nat.eq_zero_or_pos ed.size with h | h
      · rw [h] at hj; omega
      · exact h
    have hm : j % ed.size < ed.size := Nat.mod_lt _ hpos'
    have hd : j / ed.size < len := Nat.div_lt_of_lt_mul (by rw [Nat.mul_comm]; exact hj)
    obtain ⟨y, hy⟩ : ∃ y, (zs.map fun z => AV.fv z.fv)[j % ed.size]? = some y := ⟨_, List.getElem?_eq_getElem (by rw [hzcl]; exact hm)⟩
    have hr := get_rep (ez := zs.map fun z => AV.fv z.fv) len (j / ed.size) (j % ed.size) y hd hy
    rw [hzcl, Nat.div_add_mod' j ed.size] at hr
    rw [hr] at hx
    have := hv (j % ed.size) x (by rw [← hx]; exact hy)
    rw [Array.getD_eq_getD_getElem?] at this
    simp only [Array.getD_eq_getD_getElem?, Array.getElem?_map, Array.getElem?_range, hj, if_true, Option.map_some, Option.getD_some, hvs]
    rw [getElem!_pos v.cells (j % ed.size) (by omega)]
    rw [Array.getElem?_eq_getElem (by omega)] at this
    simpa using this
  obtain ⟨vs', e1, e2, e3⟩ := fill_ok ps _ _ els.flatten _ hf h1 h2 (by rw [hlen0]; simp) hcells
  have hell : ∀ i, i < len → (els.getD i []).length = ed.size := by
    intro i hi
    have hi' : i < els.length := by omega
    have := List.all_eq_true.1 hel els[i] (List.getElem_mem hi')
    rw [List.getD_eq_getElem?_getD, List.getElem?_eq_getElem hi']
    simpa using this
  have hfl := flat_get els ed.size (fun l hl => by simpa using List.all_eq_true.1 hel l hl)
  have hvsz : vs'.size = len * ed.size := by
    rw [← e2, flat_len els ed.size (fun l hl => by simpa using List.all_eq_true.1 hel l hl), hels]
  obtain ⟨g1, g2⟩ := hs.st.newArr vs' e ed.size len (fun i => els.getD i []) true (by omega) (fun _ => by omega) hell
    (fun i j x hi hx => e3 _ _ (by rw [hfl i j (by rw [← hell i hi]; exact len_of_get hx)]; exact hx))
  refine upon_value a next Q (w' := (c.new (.cells vs' e)).w) (v := .slice (some ⟨c.w.heap.size, 0, none⟩) len len) ?_ ?_
  · have hbig : ¬ (len * ed.size > 2 ^ 24) := by omega
    rw [show (parts.map fun (p : Nat × Operand) => (p.1, a.eval p.2)) = parts.map (fun x => match x with | (i, x) => (i, a.eval x)) from rfl] at e1
    simp only [execOp, ho, Instr.buildSlice, Sem.run_bind, hu, Result.andThen_ok, hes, if_neg hbig, if_neg hpos, hrun, Sem.run_pure]
    rw [e1]
    simp [newRow, Cx.new]
  · refine hk _ (c.new (.cells vs' e)) _ _ g1 g2 ?_ ⟨rfl, rfl, rfl⟩
    refine .sl _ _ _ _ _ _ _ (by simp [Cx.new]) (Nat.le_refl _) (fun k hk => by simpa using hk.symm) (fun _ => by simp [Cx.new, upd_same])

omit T in
/-- A call of a function that is known. -/
theorem AOp.call {f : Operand} {args : Array Operand} {ts : Array TypeId} {g : FuncId} {first cap xs : List AV} {R : Nat → AV → Heap → Prop} (ho : o.op = .call { callee := .value f, args := args, argTypes := ts })
    (hf : aev fr f = some (.fn (.func g) first cap) ∨ (aev fr f = some (.fv (.fn (.func g))) ∧ first = [] ∧ cap = [])) (hx : args.toList.mapM (aev fr) = some xs) (h : ACall P g (first ++ xs ++ cap) N H R) : AOp P nt o N fr H R := by
  intro c a hN hs next Q hk
  subst hN
  obtain ⟨hx1, hx2⟩ := evs_ok hs hx
  obtain ⟨fs, cs, hfv, hl1, hl2, hv1, hv2⟩ : ∃ fs cs, a.eval f = .func (.func g) fs cs ∧ first.length = fs.size ∧ cap.length = cs.size ∧ (∀ (j : Nat) x, first[j]? = some x → VR c.w c.F c.ρ c.N x (fs.getD j undef)) ∧ ∀ (j : Nat) x, cap[j]? = some x → VR c.w c.F c.ρ c.N x (cs.getD j undef) := by
    rcases hf with hf | ⟨hf, rfl, rfl⟩
    · have := aev_ok hs hf
      generalize a.eval f = v at this
      cases this with
      | fn _ _ _ fs cs h1 h2 h3 h4 => exact ⟨fs, cs, rfl, h1, h2, h3, h4⟩
    · have := (aev_ok hs hf).fv_inv
      generalize a.eval f = v at this
      cases this
      exact ⟨#[], #[], rfl, rfl, rfl, fun j x h => by simp at h, fun j x h => by simp at h⟩
  obtain ⟨⟨fn, hfn, hnm, hbd⟩, hcall⟩ := h
  have hrun : (execOp a.eval o).run P c.w = .ok (.enter g (fs ++ args.map a.eval ++ cs)) c.w := by
    have hnm' : ¬ ((fn.name == "runtime.NumGoroutine") = true) := by rw [hnm]; simp
    have hbd' : ¬ (fn.body.isNone = true) := by rw [hbd]; simp
    simp only [execOp, ho, resolve, hfv, Deferred.ofValue, Sem.run_bind, Sem.run_pure, Result.andThen_ok, invoke, callFunc, run_program, hfn, if_neg hnm', if_neg hbd']
  have hvrs : VRs c (first ++ xs ++ cap) (fs ++ args.map a.eval ++ cs) := by
    have app : ∀ {l1 l2 : List AV} {v1 v2 : Array Value}, VRs c l1 v1 → VRs c l2 v2 → VRs c (l1 ++ l2) (v1 ++ v2) := by
      intro l1 l2 v1 v2 h1 h2
      refine ⟨by simp [h1.1, h2.1], fun j x hx => ?_⟩
      rw [List.getElem?_append] at hx
      rw [Array.getD_eq_getD_getElem?, Array.getElem?_append, ← h1.1]
      split at hx
      · rename_i hlt
        rw [if_pos hlt]
        have := h1.2 j x hx
        rwa [Array.getD_eq_getD_getElem?] at this
      · rename_i hlt
        rw [if_neg hlt]
        have := h2.2 _ x hx
        rwa [Array.getD_eq_getD_getElem?] at this
    exact app (app ⟨hl1, hv1⟩ ⟨hx1, hx2⟩) ⟨hl2, hv2⟩
  unfold Oper.wp
  rw [hrun, Oper.upon_enter]
  exact hcall c rfl hs.st _ hvrs _ fun v c' r H' h1 h2 h3 h4 => hk v c' r H' h1 h2 h3 h4

/-- A function's results. -/
inductive ARL (tab : TypeId → Option TD) (fr : Frame) (H : Heap) : List ResultVar → List AV → Prop
  | nil : ARL tab fr H [] []
  | tmp (t : Nat) (x : AV) (rs : List ResultVar) (xs : List AV) (h : fget fr t = some x) (hr : ARL tab fr H rs xs) : ARL tab fr H (.tmp t :: rs) (x :: xs)
  | cell (a t n sz i j len : Nat) (g : Nat → List AV) (tight : Bool) (Hr : Heap) (td : TD) (x : AV) (rs : List ResultVar) (xs : List AV) (h : fget fr a = some (.ptr n sz i j)) (hh : Has n (.arr sz len g tight) H Hr) (hi : i < len) (ht : tab t = some td)
      (hx : apart td.kind.agg j td.size (g i) = some x) (hp : (bif td.kind.agg then (((g i).drop j).take td.size) else [x]).all AV.plain = true) (hr : ARL tab fr H rs xs) : ARL tab fr H (.cell a t :: rs) (x :: xs)
  | cellC (a t n sz i j : Nat) (cs : List AV) (Hr : Heap) (td : TD) (x : AV) (rs : List ResultVar) (xs : List AV) (h : fget fr a = some (.ptr n sz i j)) (hh : Has n (vr cs) H Hr) (ht : tab t = some td)
      (hx : apart td.kind.agg (i * sz + j) td.size cs = some x) (hp : (bif td.kind.agg then ((cs.drop (i * sz + j)).take td.size) else [x]).all AV.plain = true) (hr : ARL tab fr H rs xs) : ARL tab fr H (.cell a t :: rs) (x :: xs)

def packR : List AV → AV
  | [x] => x
  | xs => .tuple xs

/-- What holds behind a function's body. -/
def fnPost (tab : TypeId → Option TD) (fn : Func) (R : Nat → AV → Heap → Prop) : Post :=
  fun e N fr H => (e = .normal ∨ e = .ret) ∧ ∃ xs, ARL tab fr H fn.results.toList xs ∧ R N (packR xs) H

/-- How a result is read. -/
def resOf (a : Act) : ResultVar → Sem Value
  | .tmp t => pure (a.tmps.getD t undef)
  | .cell b t => do loadVar t (← asAddr (a.tmps.getD b undef))

theorem run_results {c : Cx} {a : Act} (hs : Sit nt c a fr H) {rs : List ResultVar} {xs : List AV} (h : ARL tab fr H rs xs) :
    ∃ vs : List Value, (rs.mapM (resOf a)).run P c.w = .ok vs c.w ∧ xs.length = vs.length ∧ ∀ (j : Nat) x, xs[j]? = some x → VR c.w c.F c.ρ c.N x (vs.getD j undef) := by
  induction h with
  | nil => exact ⟨[], by simp, rfl, fun j x h => by simp at h⟩
  | tmp t x rs xs h hr ih =>
    obtain ⟨vs, h1, h2, h3⟩ := ih
    refine ⟨a.tmps.getD t undef :: vs, ?_, by simp [h2], fun j y hy => ?_⟩
    · rw [List.mapM_cons]; simp only [Sem.run_bind, resOf, Sem.run_pure, Result.andThen_ok, h1]
    · cases j with
      | zero => simp at hy; subst hy; exact (hs.fr.get h).2
      | succ j => exact h3 j y (by simpa using hy)
  | cell b t n sz i j len g tight Hr td x rs xs h hh hi ht hx hp hr ih =>
    obtain ⟨vs, h1, h2, h3⟩ := ih
    obtain ⟨hv, hn⟩ := (hs.fr.get h).2.ptr_inv
    obtain ⟨B, hor⟩ := hh.mem hs.st.hr
    obtain ⟨v, hrun0, hvr⟩ := run_loadOR T hor hi ht hx hp
    have hrun := hrun0 c.w rfl
    refine ⟨v :: vs, ?_, by simp [h2], fun k y hy => ?_⟩
    · rw [List.mapM_cons]; simp only [Sem.run_bind, resOf, Sem.run_pure, Result.andThen_ok, h1, hv, asAddr, hrun]
    · cases k with
      | zero => simp at hy; subst hy; exact hvr
      | succ k => exact h3 k y (by simpa using hy)
  | cellC b t n sz i j cs Hr td x rs xs h hh ht hx hp hr ih =>
    obtain ⟨vs, h1, h2, h3⟩ := ih
    obtain ⟨hv, hn⟩ := (hs.fr.get h).2.ptr_inv
    obtain ⟨B, hor⟩ := hh.mem hs.st.hr
    obtain ⟨v, hrun0, hvr⟩ := run_loadOR T hor (i := 0) (by omega) ht hx hp
    have hrun := hrun0 c.w rfl
    rw [Nat.zero_mul, Nat.zero_add] at hrun
    refine ⟨v :: vs, ?_, by simp [h2], fun k y hy => ?_⟩
    · rw [List.mapM_cons]; simp only [Sem.run_bind, resOf, Sem.run_pure, Result.andThen_ok, h1, hv, asAddr, hrun]
    · cases k with
      | zero => simp at hy; subst hy; exact hvr
      | succ k => exact h3 k y (by simpa using hy)

def argFrame : Nat → List AV → Frame
  | _, [] => []
  | i, x :: xs => (i, x) :: argFrame (i + 1) xs

omit T in
theorem argFrame_mem : ∀ (xs : List AV) (i : Nat) (p : Nat × AV), p ∈ argFrame i xs → ∃ j, p.1 = i + j ∧ xs[j]? = some p.2
  | [], i, p, h => by cases h
  | x :: xs, i, p, h => by
    rcases List.mem_cons.1 h with rfl | h
    · exact ⟨0, rfl, rfl⟩
    · obtain ⟨j, h1, h2⟩ := argFrame_mem xs (i + 1) p h
      exact ⟨j + 1, by omega, by simpa using h2⟩

/-- A function's contract, out of its body. -/
theorem ACall.of_body {f : FuncId} {fn : Func} {cd : Code} {args : List AV} {R : Nat → AV → Heap → Prop} (hf : P.funcs[f]? = some fn) (hnm : (fn.name == "runtime.NumGoroutine") = false) (hb : fn.body = some cd) (hl : args.length ≤ fn.ntmps)
    (h : AWp P fn.ntmps cd N (argFrame 0 args) H (fnPost tab fn R)) : ACall P f args N H R := by
  refine ⟨⟨fn, hf, hnm, by rw [hb]; rfl⟩, fun c hN hst vs hv R' hk => ?_⟩
  refine calls_of_wp hf hb (h c _ hN ⟨hst, ?_, ?_, rfl⟩ _ fun e c' a' fr' H' h1 h2 h3 => ?_)
  · intro p hp
    obtain ⟨j, hj, hx⟩ := argFrame_mem _ _ _ hp
    have hjl := len_of_get hx
    have hjs : j < vs.size := by rw [← hv.1]; exact hjl
    rw [Nat.zero_add] at hj
    rw [hj]
    refine ⟨by simp; omega, ?_⟩
    have := hv.2 j p.2 hx
    rw [Array.getD_eq_getD_getElem?] at this ⊢
    rw [Array.getElem?_append_left hjs]
    exact this
  · have := hv.1
    simp; omega
  · obtain ⟨he, xs, hxs, hR⟩ := h3
    obtain ⟨vs', g1, g2, g3⟩ := run_results T h1 hxs
    have hrr : ∃ v, (results fn a'.tmps).run P c'.w = .ok v c'.w ∧ VR c'.w c'.F c'.ρ c'.N (packR xs) v := by
      have e1 : (results fn a'.tmps).run P c'.w = .ok (if h : vs'.toArray.size = 1 then vs'.toArray[0] else .tuple vs'.toArray) c'.w := by
        have e0 : results fn a'.tmps = (do let vs ← fn.results.mapM (resOf a'); pure (if h : vs.size = 1 then vs[0] else .tuple vs)) := by
          unfold results
          congr 1
        rw [e0, Array.mapM_eq_mapM_toList]
        simp only [Sem.run_bind, Sem.run_map]
        rw [g1]; rfl
      refine ⟨_, e1, ?_⟩
      match xs, vs', g2, g3 with
      | [x], [v], _, g3 => simpa [packR] using g3 0 x rfl
      | [], [], _, g3 => exact .tuple _ _ rfl (fun j x h => by simp at h)
      | x :: y :: xs, v :: u :: vs', g2, g3 =>
        rw [dif_neg (by simp)]
        exact .tuple _ _ (by simpa using g2) (fun j z hz => by simpa [Array.getD_eq_getD_getElem?, List.getD_eq_getElem?_getD] using g3 j z hz)
    obtain ⟨v, hv1, hv2⟩ := hrr
    rcases he with rfl | rfl
    · exact ⟨h1.defers, v, hv1, hk v c' _ H' h1.st h2 hv2 hR⟩
    · exact ⟨h1.defers, v, hv1, hk v c' _ H' h1.st h2 hv2 hR⟩

end
end Go.Sl
