/-
  BandsCircle: what the document's answer says is the table; no condition.
-/
import Derived.Test.YtoooienmcogbhaaBnr
import Derived.Test.YtoooienmcogbhaaPBandsCirclex1
import Derived.Test.YtoooienmcogbhaaPBandsCirclex2
set_option linter.unusedVariables false
set_option linter.unusedSimpArgs false
namespace Go.Proofs.Ytoooienmcogbhaa.Bnd
open Go.RowKit Go.Proofs.Ytoooienmcogbhaa Go.Proofs.YtoooienmcogbhaaW.PrintWords Go.Proofs.YtoooienmcogbhaaW.PrintLast Go.Proofs.YtoooienmcogbhaaW.PrintMore Go.Proofs.Ytoooienmcogbhaa.PBandsCircle
theorem QT_len : QT.length = 1025 := by rw [← sel_all, sel_len]
theorem rd_QT (x : Int) : rd QT x = qt x.toNat := rfl
attribute [local irreducible] qt QT sel cv cb
theorem wrap64_id {x : Int} (h0 : -9223372036854775808 ≤ x) (h1 : x < 9223372036854775808) : wrap64 x = x := by unfold wrap64; omega
theorem j0_pos (m : Nat) (h : m < 4096) : sidebandref04_Cos.j0 1 QT (m : Int) = some (cv m) := by
  simp only [sidebandref04_Cos.j0]
  by_cases h1 : (m : Int) > 2048
  · rw [if_pos h1, wrap64_id (by omega) (by omega), ← cv_flip m (4096 - m) (by omega) (by omega)]
    by_cases h2 : 4096 - (m : Int) > 1024
    · have b := qt_bd ⟨2048 - (4096 - m), by omega⟩
      simp only at b
      rw [if_pos h2, wrap64_id (by omega) (by omega), if_pos (by omega), if_pos (by rw [QT_len]; omega), rd_QT, show (2048 - (4096 - (m : Int))).toNat = 2048 - (4096 - m) from by omega, wrap64_id (by omega) (by omega), ← cv_back (4096 - m) (2048 - (4096 - m)) (by omega) (by omega) (by omega)]
    · rw [if_neg h2, if_pos (by omega), if_pos (by rw [QT_len]; omega), rd_QT, show (4096 - (m : Int)).toNat = 4096 - m from by omega, cv_first _ (by omega)]
  · rw [if_neg h1]
    by_cases h2 : (m : Int) > 1024
    · have b := qt_bd ⟨2048 - m, by omega⟩
      simp only at b
      rw [if_pos h2, wrap64_id (by omega) (by omega), if_pos (by omega), if_pos (by rw [QT_len]; omega), rd_QT, show (2048 - (m : Int)).toNat = 2048 - m from by omega, wrap64_id (by omega) (by omega), ← cv_back m (2048 - m) (by omega) (by omega) (by omega)]
    · rw [if_neg h2, if_pos (by omega), if_pos (by rw [QT_len]; omega), rd_QT, Int.toNat_natCast, cv_first _ (by omega)]
theorem ref_cos (x : Int) : sidebandref04_Cos.f 1 QT x = some (cosv x) := by
  unfold sidebandref04_Cos.f cosv
  obtain ⟨m, hm⟩ : ∃ m : Nat, (m : Int) = x % 4096 := ⟨(x % 4096).toNat, by omega⟩
  have h4 : m < 4096 := by omega
  have e := Int.tmod_add_mul_tdiv x 4096
  rw [← hm, Int.toNat_natCast]
  by_cases h : Int.tmod x 4096 < 0
  · have h5 : Int.tmod x 4096 > -4096 := by have := Int.tmod_lt_of_pos (-x) (show (0 : Int) < 4096 by decide); rw [Int.neg_tmod] at this; omega
    rw [if_pos h, wrap64_id (by omega) (by omega), show Int.tmod x 4096 + 4096 = (m : Int) from by omega, j0_pos m h4]
  · have h5 := Int.tmod_lt_of_pos x (show (0 : Int) < 4096 by decide)
    rw [if_neg h, show Int.tmod x 4096 = (m : Int) from by omega, j0_pos m h4]
theorem ref_rise (x : Int) : sidebandref04_Rise.f 1 QT x = some (risev x) := by
  unfold sidebandref04_Rise.f risev
  by_cases h0 : x < 0
  · rw [if_pos h0, if_pos h0]
  · rw [if_neg h0, if_neg h0]
    by_cases h1 : x ≥ 128
    · rw [if_pos h1, if_pos h1]
    · rw [if_neg h1, if_neg (by omega), wrap64_id (x := 2 * x) (by omega) (by omega), wrap64_id (x := 2 * x + 1) (by omega) (by omega), wrap64_id (x := 4 * (2 * x + 1)) (by omega) (by omega), wrap64_id (by omega) (by omega), ref_cos]
      rfl
end Go.Proofs.Ytoooienmcogbhaa.Bnd
