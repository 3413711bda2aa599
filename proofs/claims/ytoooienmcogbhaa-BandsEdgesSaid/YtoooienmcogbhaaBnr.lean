/-
  The rules of the cosines: plain laws; no condition.
-/
import Derived.Test.YtoooienmcogbhaaBnc
set_option linter.unusedVariables false
set_option linter.unusedSimpArgs false
namespace Go.Proofs.Ytoooienmcogbhaa.Bnd
open Go.RowKit Go.Proofs.Ytoooienmcogbhaa Go.Proofs.YtoooienmcogbhaaW.PrintWords Go.Proofs.YtoooienmcogbhaaW.PrintLast Go.Proofs.YtoooienmcogbhaaW.PrintMore
theorem cos_512 : cosv 512 = 11863283 := by decide +kernel
theorem qt_end : qt 1024 = 0 := by decide +kernel
/-- The squares of both legs. -/
theorem leg : ∀ a : Fin 1025, qt a.val * qt a.val ≤ 281474976710656 ∧ -4294967296 < qt a.val * qt a.val + qt (1024 - a.val) * qt (1024 - a.val) - 281474976710656 ∧ qt a.val * qt a.val + qt (1024 - a.val) * qt (1024 - a.val) - 281474976710656 < 4294967296 := by decide +kernel
theorem falls : ∀ a : Fin 1024, qt (a.val + 1) < qt a.val := by decide +kernel
theorem cos_a (u : Int) (a : Nat) (ha : a ≤ 1024) (h : u % 4096 = a) : cosv u = qt a := by
  unfold cosv
  rw [h, Int.toNat_natCast, cv_first a ha]
theorem cos_b (u : Int) (a : Nat) (ha : a ≤ 1024) (h : u % 4096 = 2048 - a) : cosv u = -(qt a) := by
  unfold cosv
  rw [h, show (2048 - (a : Int)).toNat = 2048 - a from by omega]
  by_cases h1 : a = 1024
  · subst h1; rw [cv_first _ (by omega), show 2048 - 1024 = 1024 from rfl, qt_end]; rfl
  · exact cv_back _ a (by omega) (by omega) (by omega)
theorem cos_c (u : Int) (a : Nat) (ha : a ≤ 1024) (h : u % 4096 = 2048 + a) : cosv u = -(qt a) := by
  by_cases h0 : a = 0
  · subst h0; exact cos_b u 0 (by omega) (by omega)
  · unfold cosv
    rw [h, show (2048 + (a : Int)).toNat = 2048 + a from by omega, ← cv_flip (2048 + a) (2048 - a) (by omega) (by omega)]
    by_cases h1 : a = 1024
    · subst h1; rw [cv_first _ (by omega), show 2048 - 1024 = 1024 from rfl, qt_end]; rfl
    · exact cv_back _ a (by omega) (by omega) (by omega)
theorem cos_d (u : Int) (a : Nat) (ha : a ≤ 1024) (h : u % 4096 = (4096 - a) % 4096) : cosv u = qt a := by
  by_cases h0 : a = 0
  · subst h0; exact cos_a u 0 (by omega) (by omega)
  · unfold cosv
    rw [h, show ((4096 - (a : Int)) % 4096).toNat = 4096 - a from by omega, ← cv_flip (4096 - a) a (by omega) (by omega), cv_first _ ha]
theorem cos_cases (u : Int) : ∃ a : Nat, a ≤ 1024 ∧ ((u % 4096 = a ∧ cosv u = qt a) ∨ (u % 4096 = 2048 - a ∧ cosv u = -(qt a)) ∨ (u % 4096 = 2048 + a ∧ cosv u = -(qt a)) ∨ (u % 4096 = (4096 - a) % 4096 ∧ cosv u = qt a)) := by
  by_cases h1 : u % 4096 ≤ 1024
  · exact ⟨(u % 4096).toNat, by omega, .inl ⟨by omega, cos_a u _ (by omega) (by omega)⟩⟩
  · by_cases h2 : u % 4096 ≤ 2048
    · exact ⟨(2048 - u % 4096).toNat, by omega, .inr (.inl ⟨by omega, cos_b u _ (by omega) (by omega)⟩)⟩
    · by_cases h3 : u % 4096 ≤ 3072
      · exact ⟨(u % 4096 - 2048).toNat, by omega, .inr (.inr (.inl ⟨by omega, cos_c u _ (by omega) (by omega)⟩))⟩
      · exact ⟨(4096 - u % 4096).toNat, by omega, .inr (.inr (.inr ⟨by omega, cos_d u _ (by omega) (by omega)⟩))⟩
/-- What the rules say of any units. -/
theorem rules (u : Int) : cosv (-u) = cosv u ∧ cosv (u + 2048) = -(cosv u) ∧ cosv (u + 4096) = cosv u ∧ (-16777216 ≤ cosv u ∧ cosv u ≤ 16777216)
    ∧ (0 ≤ cosv u * cosv u ∧ cosv u * cosv u ≤ 281474976710656) ∧ (0 ≤ cosv (u - 1024) * cosv (u - 1024) ∧ cosv (u - 1024) * cosv (u - 1024) ≤ 281474976710656)
    ∧ -4294967296 < cosv u * cosv u + cosv (u - 1024) * cosv (u - 1024) - 281474976710656 ∧ cosv u * cosv u + cosv (u - 1024) * cosv (u - 1024) - 281474976710656 < 4294967296 := by
  obtain ⟨a, ha, h⟩ := cos_cases u
  obtain ⟨l0, l1, l2⟩ := leg ⟨a, by omega⟩
  obtain ⟨m0, _⟩ := leg ⟨1024 - a, by omega⟩
  have b := qt_bd ⟨a, by omega⟩
  have b2 := qt_bd ⟨1024 - a, by omega⟩
  simp only at l0 l1 l2 m0 b b2
  have n0 := Int.mul_nonneg b.1 b.1
  have n1 := Int.mul_nonneg b2.1 b2.1
  rcases h with ⟨h, e⟩ | ⟨h, e⟩ | ⟨h, e⟩ | ⟨h, e⟩
  · rw [cos_d (-u) a ha (by omega), cos_c (u + 2048) a ha (by omega), cos_a (u + 4096) a ha (by omega), cos_d (u - 1024) (1024 - a) (by omega) (by omega), e]
    refine ⟨rfl, rfl, rfl, by omega, by omega, by omega, by omega, by omega⟩
  · rw [cos_c (-u) a ha (by omega), cos_d (u + 2048) a ha (by omega), cos_b (u + 4096) a ha (by omega), cos_a (u - 1024) (1024 - a) (by omega) (by omega), e]
    simp only [Int.neg_mul_neg, Int.neg_neg]
    refine ⟨trivial, trivial, trivial, by omega, by omega, by omega, by omega, by omega⟩
  · rw [cos_b (-u) a ha (by omega), cos_a (u + 2048) a ha (by omega), cos_c (u + 4096) a ha (by omega), cos_b (u - 1024) (1024 - a) (by omega) (by omega), e]
    simp only [Int.neg_mul_neg, Int.neg_neg]
    refine ⟨trivial, trivial, trivial, by omega, by omega, by omega, by omega, by omega⟩
  · rw [cos_a (-u) a ha (by omega), cos_b (u + 2048) a ha (by omega), cos_d (u + 4096) a ha (by omega), cos_c (u - 1024) (1024 - a) (by omega) (by omega), e]
    simp only [Int.neg_mul_neg, Int.neg_neg]
    refine ⟨trivial, trivial, trivial, by omega, by omega, by omega, by omega, by omega⟩
end Go.Proofs.Ytoooienmcogbhaa.Bnd
