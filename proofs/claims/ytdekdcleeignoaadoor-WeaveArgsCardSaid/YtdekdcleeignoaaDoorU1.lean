/-
  A row of whole numbers as the printed walks tell it, and as these walks do. Plain theorems; no condition.
-/
import Derived.Test.YtdekdcleeignoaaDoorU0
import Derived.Test.YtdekdcleeignoaaDoorWMore
import Derived.Test.YtdekdcleeignoaaDoorWInvWords
set_option linter.unusedVariables false
namespace Go.Proofs.YtdekdcleeignoaaDoor
open Go.RowKit Go.Proofs.YtdekdcleeignoaaDoorW.PrintWords

theorem rowI_of_R {k : IntKind} {e : Nat} {w : World} {base : Nat} {ok : Nat → Prop} {v : Value} {xs : List Int} (h : Kd.R (Kd.int k) e w base ok v xs) (hp : 0 < xs.length) :
    ∃ g cap, v = .slice (some ⟨g, 0, none⟩) xs.length cap ∧ base ≤ g ∧ RowI w e k g cap xs := by
  have ho := Kd.own_of_R (enc := Value.int k) h
  obtain ⟨hl, hc⟩ := ho
  rcases hc with ⟨_, h0⟩ | ⟨g, cap, cur, rfl, hg, hh, h1, h2, h3, h4⟩
  · omega
  · refine ⟨g, cap, rfl, hg, cur, hh, h1, h2, by omega, fun i hi => ?_⟩
    have e1 : (cur.toList.take (xs.length * 1))[i]? = some (.int k xs[i]) := by rw [h4]; simp [encs, hi]
    rw [List.getElem?_take, if_pos (by omega)] at e1
    simpa using e1
theorem R_of_rowI {k : IntKind} {e : Nat} {w : World} {base g cap : Nat} {xs : List Int} (h : RowI w e k g cap xs) (hb : base ≤ g) : Kd.R (Kd.int k) e w base (fun _ => True) (.slice (some ⟨g, 0, none⟩) xs.length cap) xs := by
  obtain ⟨cs, hh, h1, h2, h3, hc⟩ := h
  refine Kd.R_of_own (enc := Value.int k) (h1 := fun _ => rfl) ⟨by simp [encs], .inr ⟨g, cap, cs, rfl, hb, hh, h1, h2, by omega, ?_⟩⟩ (fun _ _ => trivial)
  apply List.ext_getElem?
  intro i
  rw [List.getElem?_take]
  by_cases hi : i < xs.length
  · rw [if_pos (by omega)]
    have := hc i hi
    rw [Array.getElem?_toList, this]
    simp [encs, hi]
  · rw [if_neg (by omega), List.getElem?_eq_none (by rw [encs_length]; omega)]
/-- A cell of a row that came in. -/
theorem cell_C {k : IntKind} {w : World} {A : Option Addr} {n : Nat} {xs : List Int} (h : (Kd.int k).C w A n xs) {i : Nat} (hi : i < xs.length) : ∃ ad, A = some ad ∧ w.cell? (ad.add i) = some (.int k xs[i]) := by
  have hl : xs.length = n := h.1
  obtain ⟨ad, e, hc⟩ := Kd.at_int h (i : Int) (by omega) (by omega)
  refine ⟨ad, e, ?_⟩
  rw [Int.toNat_natCast] at hc
  rw [hc]
  unfold rd
  rw [Int.toNat_natCast, List.getD_eq_getElem?_getD, List.getElem?_eq_getElem hi]; rfl
theorem C_of_rowI {k : IntKind} {e : Nat} {w : World} {g cap : Nat} {xs : List Int} (h : RowI w e k g cap xs) : (Kd.int k).C w (some ⟨g, 0, none⟩) xs.length xs := (Kd.R_reads' (R_of_rowI h (Nat.zero_le g))).2.2
end Go.Proofs.YtdekdcleeignoaaDoor
