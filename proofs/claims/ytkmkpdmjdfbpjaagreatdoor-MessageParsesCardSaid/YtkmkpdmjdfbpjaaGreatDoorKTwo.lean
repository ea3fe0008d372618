/-
  A region in which either of two operations may come first (no condition).
-/
import Derived.Test.YtkmkpdmjdfbpjaaGreatDoorJ17
namespace Go.Proofs.YtkmkpdmjdfbpjaaGreatDoor
open Go.ChangeShapes Go.WideShapes Go.RowKit Go.Deep
section
variable {P : Program} {md : Region.Mode} {ops : Array Oper} {Q : Exit → Act → World → Prop} {T : Nat → Prop}
theorem grow_two {i j : Nat} {oi oj : Oper} {fuel : Nat} {listed : Array Bool} {a : Act} {w : World} (hr : Region.ready md ops listed = [i, j]) (hi : ops[i]? = some oi) (hj : ops[j]? = some oj)
    (hwi : Region.wanted oi (yielded ops a.tmps) = true) (hwj : Region.wanted oj (yielded ops a.tmps) = true)
    (h1 : ∀ K : Act → World → Prop, (∀ a' w', Chg T w w' → wpAnyH P md ops (NoPanic Q) (Chg T w') fuel (listed.setIfInBounds i true) a' w' → K a' w') → Oper.wp P oi a w K (NoPanic Q))
    (h2 : ∀ K : Act → World → Prop, (∀ a' w', Chg T w w' → wpAnyH P md ops (NoPanic Q) (Chg T w') fuel (listed.setIfInBounds j true) a' w' → K a' w') → Oper.wp P oj a w K (NoPanic Q)) :
    wpAnyH P md ops (NoPanic Q) (Chg T w) (fuel + 1) listed a w := by
  refine wpAnyH_ready hr (by simp) (AllReadyH.cons hi (fun K hK => ?_) (AllReadyH.cons hj (fun K hK => ?_) AllReadyH.nil))
  · rw [if_pos hwi]
    exact h1 K fun a' w' hc hn => hK.out a' w' hc fun _ => wpAnyH_sub (fun W hW => hc.trans hW fun _ _ => id) _ _ _ _ hn
  · rw [if_pos hwj]
    exact h2 K fun a' w' hc hn => hK.out a' w' hc fun _ => wpAnyH_sub (fun W hW => hc.trans hW fun _ _ => id) _ _ _ _ hn
end
end Go.Proofs.YtkmkpdmjdfbpjaaGreatDoor
