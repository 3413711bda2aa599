/-
  Words: slices that are read while objects are turned. Plain theorems; no condition.
-/
import Derived.Test.YtdekdcleeignoaaDoorU6
import Derived.Test.YtdekdcleeignoaaDoorU4
set_option linter.unusedVariables false
namespace Go.Proofs.YtdekdcleeignoaaDoor
open Go.RowKit

/-- u holds these numbers as long as these objects are as they are. -/
def Rd (W : World) (L : List Ast) (k : IntKind) (u : Value) (ys : List Int) : Prop := ∀ w, Hp W w L → Src w k u ys
section
variable {W w : World} {L : List Ast} {k : IntKind} {u v : Value} {ys xs : List Int} {t : TypeId} {g cap : Nat}
theorem Rd.arg (h : Src W k u ys) : Rd W L k u ys := fun w H => Src.below h H.b
theorem Rd.row : Rd W (rowA t k g cap xs :: L) k (.slice (some ⟨g, 0, none⟩) xs.length cap) xs := fun w H => Src.of_sl (Sl.row H.row)
theorem Rd.rown {n : Nat} (hn : xs.length = n) : Rd W (rowA t k g cap xs :: L) k (.slice (some ⟨g, 0, none⟩) n cap) xs := by subst hn; exact Rd.row
theorem Rd.sl : Rd W (slA t k v xs :: L) k v xs := fun w H => Src.of_sl H.sl
theorem Rd.nil : Rd W L k (.slice none 0 0) [] := fun w H => ⟨none, 0, rfl, fun h => by simp at h⟩
theorem Rd.pk (is : List Nat) (h : Rd W (pick is L) k u ys) : Rd W L k u ys := fun w H => h w (H.pk is)
theorem Rd.tail {A : Ast} (h : Rd W L k u ys) : Rd W (A :: L) k u ys := fun w H => h w H.drop
theorem Rd.cell {ad : Addr} {n c j : Nat} (r : Rd W L k (.slice (some ad) n c) ys) (hj : j < ys.length) (w : World) (h : Hp W w L) : w.cell? (ad.add j) = some (.int k ys[j]) := by
  obtain ⟨a, e, d⟩ := (r w h).cell hj
  cases e
  exact d
theorem Src.form (h : Src w k u ys) : ∃ A c, u = .slice A ys.length c := by obtain ⟨A, c, e, _⟩ := h; exact ⟨A, c, e⟩
end
end Go.Proofs.YtdekdcleeignoaaDoor
