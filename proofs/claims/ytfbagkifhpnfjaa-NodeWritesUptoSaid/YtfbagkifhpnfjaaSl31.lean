/- From what a call is handed to told values. No condition. -/
import Derived.Test.YtfbagkifhpnfjaaSl30
import Derived.WalkKit
import Derived.ProofKit
import Derived.OpenShut
import Derived.JoinedCond
import Derived.ChangeArms
import Derived.Carry
import Derived.Deep.Slices
namespace Go.Sl
open Go Go.ChangeShapes Go.WideShapes
set_option linter.unusedVariables false
set_option linter.unusedSimpArgs false

theorem APure.calls {P : Program} {f : FuncId} {args : List AV} (h : APure P f args (.fv (.bool true))) (W : World) (vs : Array Value)
    (hv : VRs ⟨W, fun b => b < W.heap.size, fun _ => 0, 0, []⟩ args vs) : Calls P f vs W fun e W' => e = .returned (.bool true) ∧ Go.RowKit.Below W.heap.size W W' := by
  refine (h 0).2 ⟨W, fun b => b < W.heap.size, fun _ => 0, 0, []⟩ rfl ⟨.nil, List.nodup_nil, fun b hb => (by cases hb), fun b hb => hb⟩ vs hv _ fun v c' r H' h1 h2 h3 h4 => ?_
  obtain ⟨rfl, _⟩ := h4
  refine ⟨by rw [h3.bool_inv], h2.os, h2.tape, h2.output, h2.size, fun k hk => h2.keep k hk fun hm => by cases hm⟩

section
variable {H : Type} (bk : DataW H → Nat) (B : Nat) (enc : TypeId × Value → H) (P : Program) (W : World)

/-- How bulk bounds the parts. -/
structure BulkOk : Prop where
  str : ∀ b : List UInt8, b.length ≤ bk (.lit (.string b))
  slice : ∀ es sp : List (DataW H), es.length ≤ bk (.slice es sp) ∧ ∀ d, d ∈ es → bk d ≤ bk (.slice es sp)
  agg : ∀ (ps : List (DataW H)) d, d ∈ ps → bk d ≤ bk (.agg ps)

/-- Cells of a type read as something told. -/
def Rd (t : TypeId) {α : Type} (f : α → List FV) (good : α → Prop) : Prop :=
  ∀ fuel cs d pl, DataW.trod enc P W 0 (fun _ => true) true fuel t cs = some (d, pl) → bk d ≤ B →
    ∃ a, good a ∧ (f a).length = cs.length ∧ ∀ (j : Nat) x, (f a)[j]? = some x → FR W (fun b => b < W.heap.size) x (cs.getD j undef)

/-- Fields of a struct, from a cell on. -/
def RdF (fs : List Field) (off tot : Nat) {α : Type} (f : α → List FV) (good : α → Prop) : Prop :=
  ∀ n (cs : List Value) (xs : List (DataW H × List MemPlace)), cs.length = tot → xs.length = fs.length →
    (∀ (i : Nat) (fld : Field), fs[i]? = some fld → DataW.trod enc P W 0 (fun _ => true) true n fld.type ((cs.drop fld.offset).take (P.cellsOf fld.type)) = xs[i]?) → (∀ x, x ∈ xs → bk x.1 ≤ B) →
    ∃ a, good a ∧ (f a).length + off = tot ∧ ∀ (j : Nat) x, (f a)[j]? = some x → FR W (fun b => b < W.heap.size) x (cs.getD (off + j) undef)
end

section
variable {H : Type} {bk : DataW H → Nat} {B : Nat} {enc : TypeId × Value → H} {P : Program} {W : World}

theorem Rd.bool {t : TypeId} (ht : P.underlying t = some .bool) : Rd bk B enc P W t (fun b : Bool => [.bool b]) (fun _ => True) := by
  intro fuel cs d pl h hb
  obtain ⟨b, rfl, hx⟩ := DataW.trod_bool ht h
  refine ⟨b, trivial, rfl, fun j x hx => ?_⟩
  cases j with
  | zero => simp at hx; subst hx; exact .bool b
  | succ j => simp at hx

theorem Rd.int {t : TypeId} {k : IntKind} (ht : P.underlying t = some (.int k)) : Rd bk B enc P W t (fun n : Int => [.int k n]) (fun n => (Lit.int k n).wf = true) := by
  intro fuel cs d pl h hb
  obtain ⟨n, rfl, hx, hw⟩ := DataW.trod_int ht h
  refine ⟨n, hw, rfl, fun j x hx => ?_⟩
  cases j with
  | zero => simp at hx; subst hx; exact .int k n
  | succ j => simp at hx

theorem Rd.str (hbk : BulkOk bk) {t : TypeId} (ht : P.underlying t = some .string) : Rd bk B enc P W t (fun s : List UInt8 => [.str s]) (fun s => s.length ≤ B) := by
  intro fuel cs d pl h hb
  obtain ⟨s, rfl, hx, hw⟩ := DataW.trod_string ht h
  simp only [Prod.mk.injEq] at hx
  refine ⟨s.data.toList, ?_, rfl, fun j x hx => ?_⟩
  · have := hbk.str s.data.toList
    rw [hx.1] at hb; omega
  · cases j with
    | zero =>
      simp at hx; subst hx
      have := FR.str (w := W) (F := fun b => b < W.heap.size) s.data.toList
      rw [string_eta] at this
      exact this
    | succ j => simp at hx

theorem Rd.mono {t : TypeId} {α β : Type} {f : α → List FV} {good : α → Prop} {g : β → List FV} {good' : β → Prop} (h : Rd bk B enc P W t f good) (m : α → β) (hf : ∀ a, good a → g (m a) = f a) (hg : ∀ a, good a → good' (m a)) : Rd bk B enc P W t g good' := by
  intro fuel cs d pl h1 h2
  obtain ⟨a, h3, h4, h5⟩ := h fuel cs d pl h1 h2
  exact ⟨m a, hg a h3, by rw [hf a h3]; exact h4, by rw [hf a h3]; exact h5⟩

theorem cell_lt {a : Addr} {v : Value} (h : W.cell? a = some v) : a.block < W.heap.size := by
  rcases Nat.lt_or_ge a.block W.heap.size with h' | h'
  · exact h'
  · simp [World.cell?, Array.getElem?_eq_none h'] at h

theorem cells_get {base : Nat} {a : Addr} {n : Nat} {cs : List Value} (h : W.cells? base a n = some cs) : cs.length = n ∧ ∀ j, j < n → W.cell? (a.add j) = some (cs.getD j undef) := by
  unfold World.cells? at h
  split at h
  · obtain ⟨h1, h2⟩ := mapM_get h
    rw [List.length_range] at h1
    refine ⟨h1.symm, fun j hj => ?_⟩
    obtain ⟨x, hx, hf⟩ := h2 j _ (List.getElem?_eq_getElem (by omega))
    rw [List.getElem?_range hj] at hx
    obtain rfl := Option.some.inj hx
    rw [hf, List.getD_eq_getElem?_getD, List.getElem?_eq_getElem (by omega)]; rfl
  · cases h

theorem Rd.slice (hbk : BulkOk bk) {t e : TypeId} {α : Type} {f : α → List FV} {good : α → Prop} {sz : Nat} (d0 : α) (ht : P.underlying t = some (.slice e)) (hsz : P.cellsOf e = sz) (he : Rd bk B enc P W e f good) :
    Rd bk B enc P W t (fun p : Bool × List α => [rowsF sz p.1 f d0 p.2]) (fun p => (p.1 = true → p.2 = []) ∧ p.2.length ≤ B ∧ ∀ a, a ∈ p.2 → good a) := by
  intro fuel cs d pl h hb
  rcases DataW.trod_slice ht h with ⟨rfl, hx⟩ | ⟨a, len, cap, elems, rest, n, _, rfl, hx, _, hl, hm, hlen, hel, _, _⟩
  · refine ⟨(true, []), ⟨fun _ => rfl, Nat.zero_le _, fun a ha => by cases ha⟩, rfl, fun j x hx => ?_⟩
    cases j with
    | zero => simp at hx; subst hx; exact .slnil _ _
    | succ j => simp at hx
  · simp only [Prod.mk.injEq] at hx
    rw [hx.1] at hb
    obtain ⟨hb1, hb2⟩ := hbk.slice (elems.map (·.1)) (rest.map (·.1))
    have key : ∀ i, i < len → ∃ q : α × List Value, good q.1 ∧ (f q.1).length = sz ∧ (∀ j, j < sz → W.cell? ((a.add (i * sz)).add j) = some (q.2.getD j undef)) ∧
        ∀ (j : Nat) x, (f q.1)[j]? = some x → FR W (fun b => b < W.heap.size) x (q.2.getD j undef) := fun i hi => by
      have h1 := hel i hi
      have hi' : i < elems.length := by omega
      rw [List.getElem?_eq_getElem hi', Option.bind_eq_some_iff] at h1
      obtain ⟨cs', h2, h3⟩ := h1
      obtain ⟨g1, g2⟩ := cells_get h2
      obtain ⟨q, k1, k2, k3⟩ := he n cs' elems[i].1 elems[i].2 h3 (Nat.le_trans (hb2 _ (List.mem_map.2 ⟨elems[i], List.getElem_mem hi', rfl⟩)) hb)
      rw [hsz] at g1 g2
      exact ⟨(q, cs'), k1, k2.trans g1, g2, k3⟩
    haveI : Inhabited (α × List Value) := ⟨(d0, [])⟩
    obtain ⟨A, hA⟩ := Go.Deep.choose_lt key
    have hget : ∀ i, i < len → ((List.range len).map fun i => (A i).1).getD i d0 = (A i).1 := fun i hi => by
      rw [List.getD_eq_getElem?_getD, List.getElem?_map, List.getElem?_range hi]; rfl
    refine ⟨(false, (List.range len).map fun i => (A i).1), ⟨fun h => (by cases h), ?_, ?_⟩, rfl, fun j x hx => ?_⟩
    · rw [List.length_map] at hb1; simp; omega
    · intro q hq
      obtain ⟨i, hi, rfl⟩ := List.mem_map.1 hq
      exact (hA i (List.mem_range.1 hi)).1
    · cases j with
      | succ j => simp at hx
      | zero =>
        simp at hx; subst hx
        have hl' : ((List.range len).map fun i => (A i).1).length = len := by simp
        show FR W _ (.sl sz false ((List.range len).map fun i => (A i).1).length _) (.slice (some a) len cap)
        rw [hl']
        refine .sl sz len _ a cap (fun i j => (A i).2.getD j undef) hl (fun i hi => by rw [hget i hi]; exact (hA i hi).2.1) (fun i j x hi hx => ?_) (fun i j x hi hx => ?_)
        · rw [hget i hi] at hx
          have hj := len_of_get hx
          rw [(hA i hi).2.1] at hj
          have hc := (hA i hi).2.2.1 j hj
          have hlt := cell_lt hc
          rw [add_block, add_block] at hlt
          exact ⟨hlt, hc⟩
        · rw [hget i hi] at hx
          exact (hA i hi).2.2.2 j x hx

theorem RdF.nil (tot : Nat) : RdF bk B enc P W [] tot tot (fun _ : Unit => []) (fun _ => True) := by
  intro n cs xs h1 h2 h3 h4
  exact ⟨(), trivial, by simp, fun j x hx => by simp at hx⟩

theorem RdF.cons {fld : Field} {fs : List Field} {off k tot : Nat} {α β : Type} {f : α → List FV} {good : α → Prop} {g : β → List FV} {good' : β → Prop} (hoff : fld.offset = off) (hk : P.cellsOf fld.type = k) (hle : off + k ≤ tot)
    (h0 : Rd bk B enc P W fld.type f good) (h1 : RdF bk B enc P W fs (off + k) tot g good') : RdF bk B enc P W (fld :: fs) off tot (fun p : α × β => f p.1 ++ g p.2) (fun p => good p.1 ∧ good' p.2) := by
  intro n cs xs hc hl hx hb
  cases xs with
  | nil => simp at hl
  | cons y xs =>
    have e0 := hx 0 fld rfl
    rw [hoff, hk] at e0
    obtain ⟨a, ga, la, va⟩ := h0 n _ y.1 y.2 e0 (hb y (List.mem_cons_self ..))
    obtain ⟨b, gb, lb, vb⟩ := h1 n cs xs hc (by simpa using hl) (fun i fl hi => by have := hx (i + 1) fl (by simpa using hi); simpa using this) (fun x hx => hb x (List.mem_cons_of_mem _ hx))
    have la' : (f a).length = k := by rw [la, List.length_take, List.length_drop, hc]; omega
    refine ⟨(a, b), ⟨ga, gb⟩, by simp; omega, fun j x hj => ?_⟩
    dsimp only at hj
    rw [List.getElem?_append] at hj
    split at hj
    · rename_i hlt
      have := va j x hj
      rw [List.getD_eq_getElem?_getD, List.getElem?_take, if_pos (by omega), List.getElem?_drop, ← List.getD_eq_getElem?_getD] at this
      exact this
    · rename_i hlt
      have := vb (j - (f a).length) x hj
      rwa [show off + k + (j - (f a).length) = off + j by omega] at this

theorem Rd.struct (hbk : BulkOk bk) {t : TypeId} {fs : Array Field} {tot : Nat} {α : Type} {f : α → List FV} {good : α → Prop} (ht : P.underlying t = some (.struct fs)) (hC : P.cellsOf t = tot) (h : RdF bk B enc P W fs.toList 0 tot f good) : Rd bk B enc P W t f good := by
  intro fuel cs d pl hd hb
  obtain ⟨xs, n, _, hx, hc, hl, hg⟩ := DataW.trod_struct ht hd
  simp only [Prod.mk.injEq] at hx
  rw [hx.1] at hb
  obtain ⟨a, h1, h2, h3⟩ := h n cs xs (hc.trans hC) (by simpa using hl) (fun i fl hi => hg i fl (by simpa using hi)) (fun x hx => Nat.le_trans (hbk.agg _ _ (List.mem_map.2 ⟨x, hx, rfl⟩)) hb)
  exact ⟨a, h1, by rw [hc, hC]; exact h2, fun j x hj => by have := h3 j x hj; rwa [Nat.zero_add] at this⟩

/-- An argument that is a struct. -/
theorem Rd.argAgg {r : Reach} {base : Nat} {t : TypeId} {fs : Array Field} {α : Type} {f : α → List FV} {good : α → Prop} (h : Rd bk B enc P W t f good) (ht : P.underlying t = some (.struct fs)) {v : Value} {d : DataW H} {p : List MemPlace}
    (hok : Value.okWide P W r base t v) (hd : DataW.Trod enc P W 0 (fun _ => true) true t v d p) (hb : bk d ≤ B) (ρ : Nat → Nat) (N : Nat) :
    ∃ a, good a ∧ VR W (fun b => b < W.heap.size) ρ N (.agg ((f a).map .fv)) v := by
  obtain ⟨vs, rfl, hsz⟩ := okWide_struct ht hok
  obtain ⟨fuel, hf⟩ := hd
  obtain ⟨a, h1, h2, h3⟩ := h fuel _ d p hf hb
  refine ⟨a, h1, .agg _ vs (by simpa [Value.cells] using h2) fun j x hx => ?_⟩
  rw [List.getElem?_map, Option.map_eq_some_iff] at hx
  obtain ⟨z, hz, rfl⟩ := hx
  have := h3 j z hz
  simp only [Value.cells] at this
  refine .fv _ _ ?_
  rw [Array.getD_eq_getD_getElem?]
  rw [List.getD_eq_getElem?_getD] at this
  simpa using this

/-- An argument of one cell. -/
theorem Rd.argOne {t : TypeId} {α : Type} {f : α → FV} {good : α → Prop} (h : Rd bk B enc P W t (fun a => [f a]) good) {v : Value} {d : DataW H} {p : List MemPlace} (hv : v.cells = #[v])
    (hd : DataW.Trod enc P W 0 (fun _ => true) true t v d p) (hb : bk d ≤ B) (ρ : Nat → Nat) (N : Nat) :
    ∃ a, good a ∧ VR W (fun b => b < W.heap.size) ρ N (.fv (f a)) v := by
  obtain ⟨fuel, hf⟩ := hd
  rw [hv] at hf
  obtain ⟨a, h1, h2, h3⟩ := h fuel _ d p hf hb
  exact ⟨a, h1, .fv _ _ (h3 0 _ rfl)⟩

end
end Go.Sl
