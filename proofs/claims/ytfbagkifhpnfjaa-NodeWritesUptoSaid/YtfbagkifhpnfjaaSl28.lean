/- A call that is evaluated from nothing. No condition. -/
import Derived.Test.YtfbagkifhpnfjaaSl27
namespace Go.Sl
open Go
set_option linter.unusedVariables false
variable {P : Program}

theorem ACall.closed {f : FuncId} {xs : List FV} {x : FV} (h : ACall P f (xs.map AV.fv) 0 [] fun _ r' _ => r' = .fv x) : APure P f (xs.map AV.fv) (.fv x) := by
  intro N
  refine ⟨h.1, fun c hN hst vs hv R' hk => ?_⟩
  have nameless : ∀ {w F ρ M ρ' M'} {y : FV} {v : Value}, VR w F ρ M (.fv y) v → VR w F ρ' M' (.fv y) v := fun h => .fv _ _ h.fv_inv
  have hr := hst.hr
  generalize hOw : c.Own = Ow at hr
  cases hr
  refine h.2 { c with N := 0 } rfl ⟨by show HR _ _ _ _ [] c.Own; rw [hOw]; exact .nil, hst.nodup, hst.notF, hst.inF⟩ vs ⟨hv.1, fun j y hy => ?_⟩ R' fun v c' r H' h1 h2 h3 h4 => ?_
  · have := hv.2 j y hy
    rw [List.getElem?_map, Option.map_eq_some_iff] at hy
    obtain ⟨z, _, rfl⟩ := hy
    exact nameless this
  · subst h4
    exact hk v { c' with N := c.N, ρ := c.ρ, Own := [] } (.fv x) [] ⟨.nil, List.nodup_nil, fun b hb => (by cases hb), h1.inF⟩
      ⟨h2.os, h2.tape, h2.output, h2.size, h2.keep, h2.grow, h2.newF, fun b hb => (by cases hb), Nat.le_refl _, fun _ _ => rfl⟩ (nameless h3) ⟨rfl, rfl⟩

def saysTrue (tab : TypeId → Option TD) (fnE : FuncId → Option Func) (lf k f : Nat) : Bool :=
  match callE tab fnE lf k f [] 0 [] with
  | some (_, .fv (.bool true), _) => true
  | _ => false

theorem saysTrue_ok {tab : TypeId → Option TD} (T : TabOk P tab) {fnE : FuncId → Option Func} (hfn : FnOk P fnE) (hm : P.follows .mixedOrders = true) {lf k f : Nat} (h : saysTrue tab fnE lf k f = true) : APure P f [] (.fv (.bool true)) := by
  unfold saysTrue at h
  split at h
  · rename_i hh
    have := callE_ok T hm hfn _ _ _ _ _ _ _ _ hh
    exact ACall.closed (xs := []) (this.mono fun N' r' H' _ e => e.2.1)
  · cases h

/-- A table of functions. -/
def LAll {α : Type} (p : α → Prop) : List α → Prop
  | [] => True
  | x :: l => p x ∧ LAll p l
theorem LAll.mem {α : Type} {p : α → Prop} : ∀ {l : List α}, LAll p l → ∀ x, x ∈ l → p x
  | [], _, x, h => by cases h
  | y :: l, h, x, hx => by
    rcases List.mem_cons.1 hx with rfl | hx
    · exact h.1
    · exact h.2.mem x hx
def flook : List (Nat × Func) → Nat → Option Func
  | [], _ => none
  | (k, d) :: r, t => bif Nat.beq k t then some d else flook r t
theorem flook_mem : ∀ (l : List (Nat × Func)) (t : Nat) (d : Func), flook l t = some d → (t, d) ∈ l
  | [], _, _, h => by cases h
  | (k, d') :: r, t, d, h => by
    simp only [flook] at h
    cases hb : Nat.beq k t with
    | true => rw [hb] at h; simp at h; rw [Nat.eq_of_beq_eq_true hb, h]; exact List.mem_cons_self ..
    | false => rw [hb] at h; simp at h; exact List.mem_cons_of_mem _ (flook_mem r t d h)
theorem FnOk.of_list {l : List (Nat × Func)} (h : LAll (fun p => P.funcs[p.1]? = some p.2 ∧ (p.2.name == "runtime.NumGoroutine") = false) l) : FnOk P (flook l) :=
  fun f fn hf => h.mem _ (flook_mem _ _ _ hf)

end Go.Sl
