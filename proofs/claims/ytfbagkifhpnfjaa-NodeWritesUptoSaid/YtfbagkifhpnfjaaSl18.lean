/- Where ways meet. No condition. -/
import Derived.Test.YtfbagkifhpnfjaaSl17
namespace Go.Sl
open Go
set_option linter.unusedVariables false
variable {P : Program}

/-- Ways meet behind x: what holds there is told once. -/
theorem AWp.seqJ {α : Type} {nt N : Nat} {x y : Code} {fr : Frame} {H : Heap} {Q : Post} (is : List Nat) (fs : α → Nat → Frame) (hs : α → Nat → Heap) (good : α → Nat → Prop)
    (second : ∀ v N', good v N' → AWp P nt y N' (fs v N') (hs v N') Q)
    (first : ∀ K : Nat → Frame → Heap → Prop, (∀ N2 fr2 H2 v Hx, fpick fr2 is = some (fs v N2) → Take (hs v N2) H2 Hx → good v N2 → K N2 fr2 H2) → AWp P nt x N fr H (Post.then K Q)) : AWp P nt (.seq x y) N fr H Q :=
  AWp.seq (first _ fun N2 fr2 H2 v Hx h1 h2 h3 => AWp.weak (fpick_mem h1) h2 (second v N2 h3))

/-- Only these slots are wanted any more, in a region whose order is left open. -/
theorem AAny.keep {nt N N0 fuel : Nat} {ops : Array Oper} {listed : Array Bool} {fr fr0 fr' fr0' : Frame} {H Hr : Heap} {K : Nat → Frame → Heap → Prop} (is0 is : List Nat) (h0 : fpick fr0 is0 = some fr0') (h : fpick fr is = some fr')
    (k : AAny P nt ops Hr N0 fuel listed fr0' N fr' H K) : AAny P nt ops Hr N0 fuel listed fr0 N fr H K :=
  fun c0 c a hN0 hs0 hN hs hduo Q hp hk => k c0 c a hN0 ⟨hs0.st, hs0.fr.weak (fpick_mem h0), hs0.size, hs0.defers⟩ hN ⟨hs.st, hs.fr.weak (fpick_mem h), hs.size, hs.defers⟩ hduo Q hp hk

end Go.Sl
