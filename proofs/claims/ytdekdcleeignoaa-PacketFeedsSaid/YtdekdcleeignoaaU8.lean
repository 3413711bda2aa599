/-
  Words: regions that draw their order, under a condition that is sharpened on the way. Plain theorems; no condition.
-/
import Derived.Test.YtdekdcleeignoaaU7
import Derived.OrdersHeld
import Derived.Deep.RegionHeld3
set_option linter.unusedVariables false
namespace Go.Proofs.Ytdekdcleeignoaa
open Go.RowKit

theorem wpAnyH_imp {P : Program} {md : Region.Mode} {ops : Array Oper} {Q : Exit → Act → World → Prop} {S S' : World → Prop} (hs : ∀ w, S w → S' w) :
    ∀ (fuel : Nat) (listed : Array Bool) (a : Act) (w : World), wpAnyH P md ops Q S fuel listed a w → wpAnyH P md ops Q S' fuel listed a w
  | 0, _, _, _, h => h
  | fuel + 1, _, _, _, h => ⟨h.1, fun i hi => wpOp_mono (fun a' w' h' => ⟨hs _ h'.1, wpAnyH_imp hs fuel _ a' w' h'.2⟩) (h.2 i hi)⟩
end Go.Proofs.Ytdekdcleeignoaa
