/- Literals that are frozen at once, where nothing is known of the heap. No condition. -/
import Derived.Test.YtfbagkifhpnfjaaSl30
namespace Go.Sl
open Go
set_option linter.unusedVariables false
set_option linter.unusedSimpArgs false
variable {P : Program}

/-- What was there before has names below N still. -/
theorem VR.lower {w w' : World} {F F' : Nat → Prop} {ρ ρ' : Nat → Nat} {N N' : Nat} {x : AV} {v v' : Value} (h : VR w F ρ N x v) (h' : VR w' F' ρ' N' x v') : VR w' F' ρ' N x v' := by
  induction h generalizing v' with
  | fv x v h => exact .fv _ _ h'.fv_inv
  | ptr n sz i j hn => obtain ⟨rfl, _⟩ := h'.ptr_inv; exact .ptr _ _ _ _ hn
  | sl n sz i len cap a c hn hl hc ha => cases h' with | sl _ _ _ _ _ a' c' _ hl' hc' ha' => exact .sl _ _ _ _ _ a' c' hn hl' hc' ha'
  | map n hn => cases h' with | map _ _ => exact .map _ hn
  | ref n hn => cases h' with | ref _ _ => exact .ref _ hn
  | fn f first captured fs cs hf hc _ _ ih1 ih2 =>
    cases h' with
    | fn _ _ _ fs' cs' hf' hc' hfv hcv => exact .fn _ _ _ fs' cs' hf' hc' (fun j x hx => ih1 j x hx (hfv j x hx)) (fun j x hx => ih2 j x hx (hcv j x hx))
  | iface t x v _ ih => cases h' with | iface _ _ u hu => exact .iface _ _ u (ih hu)
  | agg cs vs hl _ ih => cases h' with | agg _ vs' hl' hv' => exact .agg _ vs' hl' fun j x hx => ih j x hx (hv' j x hx)
  | tuple cs vs hl _ ih => cases h' with | tuple _ vs' hl' hv' => exact .tuple _ vs' hl' fun j x hx => ih j x hx (hv' j x hx)
  | rowNil n hn => cases h' with | rowNil _ _ => exact .rowNil _ hn
  | row n len hn => cases h' with | row _ _ _ => exact .row _ _ hn
  | ifb c x v _ hn ih => cases h' with | ifb _ _ _ h1 h2 => exact .ifb _ _ _ (fun e => ih e (h1 e)) h2
  | junk v => exact .junk _

theorem CR.lower {w w' : World} {F F' : Nat → Prop} {ρ ρ' : Nat → Nat} {N N' : Nat} {x : AV} {v v' : Value} {B B' : List Nat} (h : CR w F ρ N x v B) (h' : CR w' F' ρ' N' x v' B') : CR w' F' ρ' N x v' B' := by
  induction h generalizing v' B' with
  | val x v h =>
    cases h' with
    | val _ _ hv => exact .val _ _ (h.lower hv)
    | osl sz len g b k c ty fz vs Bs hb hfree hlen hsize hsz hcell hval => cases h
    | optr cs b c ty fz vs Bs hb hfree hsize hcell hval => cases h
  | osl sz len g b k c ty fz vs Bs hb hfree hlen hsize hsz hcell hval ih =>
    cases h' with
    | val _ _ hv => cases hv
    | osl _ _ _ b' k' c' ty' fz' vs' Bs' hb' hfree' hlen' hsize' hsz' hcell' hval' => exact .osl sz len g b' k' c' ty' fz' vs' Bs' hb' hfree' hlen' hsize' hsz' hcell' fun i j x hi hx => ih i j x hi hx (hval' i j x hi hx)
  | optr cs b c ty fz vs Bs hb hfree hsize hcell hval ih =>
    cases h' with
    | val _ _ hv => cases hv
    | optr _ b' c' ty' fz' vs' Bs' hb' hfree' hsize' hcell' hval' => exact .optr cs b' c' ty' fz' vs' Bs' hb' hfree' hsize' hcell' fun j x hx => ih j x hx (hval' j x hx)

theorem OR.lower {w w' : World} {F F' : Nat → Prop} {ρ ρ' : Nat → Nat} {N N' n : Nat} {o : AObj} {B B' : List Nat} (h : OR w F ρ N n o B) (h' : OR w' F' ρ' N' n o B') : OR w' F' ρ' N n o B' := by
  cases h with
  | arr sz len g tight c ty fz vs Bs hn hb hfree hsize ht hsz hcell hval =>
    cases h' with
    | arr _ _ _ _ c' ty' fz' vs' Bs' hn' hb' hfree' hsize' ht' hsz' hcell' hval' =>
      exact .arr _ _ _ _ _ c' ty' fz' vs' Bs' hn hb' hfree' hsize' ht' hsz' hcell' fun i j x hi hx => (hval i j x hi hx).lower (hval' i j x hi hx)
  | map es ents clock hn hb hl hborn hnd hval =>
    cases h' with
    | map _ ents' clock' hn' hb' hl' hborn' hnd' hval' =>
      refine .map _ _ ents' clock' hn hb' hl' hborn' hnd' fun j x e hx he => ?_
      have hj := len_of_get hx
      have hg := Array.getElem?_eq_getElem (xs := ents) (i := j) (by omega)
      exact ⟨(hval j x _ hx hg).1.lower (hval' j x e hx he).1, (hval j x _ hx hg).2.lower (hval' j x e hx he).2⟩
  | rowNil sz hn => cases h' with | rowNil _ _ => exact .rowNil _ _ hn
  | row sz els c ty fz vs Bs hn hb hfree hlen hsize hmax hsz hcell hval =>
    cases h' with
    | row _ _ c' ty' fz' vs' Bs' hn' hb' hfree' hlen' hsize' hmax' hsz' hcell' hval' =>
      exact .row _ _ _ c' ty' fz' vs' Bs' hn hb' hfree' hlen' hsize' hmax' hsz' hcell' fun i j l x hl hx => (hval i j l x hl hx).lower (hval' i j l x hl hx)
  | strIter s pos hn hb => cases h' with | strIter _ _ _ hb' => exact .strIter _ _ _ hn hb'
  | mapIter m since seen stepped hn hm hb => cases h' with | mapIter _ _ _ _ _ _ hb' => exact .mapIter _ _ _ _ _ hn hm hb'

theorem HR.lower {w w' : World} {F F' : Nat → Prop} {ρ ρ' : Nat → Nat} {N N' : Nat} : ∀ {H : Heap} {O O' : List Nat}, HR w F ρ N H O → HR w' F' ρ' N' H O' → HR w' F' ρ' N H O'
  | [], O, O', h, h' => by cases h'; exact .nil
  | (n, o) :: H, O, O', h, h' => by
    cases h with
    | cons _ _ _ B Own ho hH =>
      cases h' with
      | cons _ _ _ B' Own' ho' hH' => exact .cons _ _ _ _ _ (ho.lower ho') (hH.lower hH')

section
variable {tab : TypeId → Option TD} (T : TabOk P tab) {nt N : Nat} {o : Oper} {fr : Frame} {H : Heap}
include T

/-- A literal slice that is never written, as a list. -/
theorem AOp.buildLit {α : Type} {t e : TypeId} {td ed : TD} {len : Nat} {parts : Array (Nat × Operand)} {ps : List (Nat × AV)} {ag : Bool} {zs : List Z} (f : α → List FV) (d : α) (L : List α) (ho : o.op = .buildSlice t len parts) (ht : tab t = some td) (hkd : td.kind = .slice e) (he : tab e = some ed)
    (hz : ed.zero = some (ag, zs)) (hp : parts.toList.mapM (fun p => (aev fr p.2).map fun x => (p.1, x)) = some ps) (hzl : zs.length = ed.size)
    (hf : afill (fun i => some (i * ed.size, ed.size)) (List.replicate len (zs.map fun z => AV.fv z.fv)).flatten ps = some ((L.flatMap f).map AV.fv)) (hcl : (L.flatMap f).length = len * ed.size) (hsmall : len * ed.size ≤ 16777216) (hpos : len * ed.size ≠ 0)
    (hL : L.length = len) (hg : ∀ i, i < len → ((L.flatMap f).drop (i * ed.size)).take ed.size = f (L.getD i d)) :
    AOp P nt o N fr H fun N' r H' => N' = N ∧ r = .fv (rowsF ed.size false f d L) ∧ H' = H := by
  intro c a hN hs next Q hk
  refine (AOp.buildSliceF T (H := H) (N := N) (fs := L.flatMap f) ho ht hkd he hz hp hzl (fun w F ρ N' O hh => ?_) hf hcl hsmall hpos).revalue (r2 := .fv (rowsF ed.size false f d L)) (fun w F ρ M v hv => .fv _ _ (hv.fv_inv.congr hL.symm hg)) c a hN hs next Q hk
  have := hs.st.hr
  rw [hN] at this
  exact this.lower hh

theorem ARead.convW {s t : TypeId} {sd td : TD} {k k' : IntKind} {x : Operand} {n r : Int} (ho : o.op = .convert s t x) (hs' : tab s = some sd) (ht : tab t = some td) (hsk : sd.kind = .int k) (hk : td.kind = .int k') (hx : aev fr x = some (.fv (.int k n))) (hw : k'.wrap n = r) :
    ARead P nt o N fr H (.fv (.int k' r)) := by
  rw [← hw]; exact ARead.convInt T ho hs' ht hsk hk hx

end
end Go.Sl
