/-
  The walk of bands.near, and plain laws on the places that a round fills; no condition but those told.
-/
import Derived.Test.YtoooienmcogbhaaU2
import Derived.Test.YtoooienmcogbhaaUQ
import Derived.Test.YtoooienmcogbhaaBnq
import Derived.Test.YtoooienmcogbhaaPArithRootsx1
set_option linter.unusedVariables false
set_option linter.unusedSimpArgs false
namespace Go.Proofs.Ytoooienmcogbhaa.Bnd
open Go.RowKit Go.Proofs.Ytoooienmcogbhaa Go.Proofs.YtoooienmcogbhaaW.PrintWords Go.Proofs.YtoooienmcogbhaaW.PrintLast Go.Proofs.YtoooienmcogbhaaW.PrintMore Go.Proofs.Ytoooienmcogbhaa.PArithRoots

attribute [local irreducible] qt QT sel arith_Root.f
theorem near_calls (x y : Int) (hx : 0 ≤ x ∧ x < 1125899906842624) (hy : 0 < y ∧ y < 1073741824) (w : World) : Calls Try.prog 67 #[.int .i64 x, .int .i64 y] w fun e w' => e = .returned (.int .i64 ((2 * x + y) / (2 * y))) ∧ w' = w := by
  have e1 : IntKind.i64.wrap (2 * x) = 2 * x := wrapI64 (by omega) (by omega)
  have e2 : IntKind.i64.wrap (2 * x + y) = 2 * x + y := wrapI64 (by omega) (by omega)
  have e3 : IntKind.i64.wrap (2 * y) = 2 * y := wrapI64 (by omega) (by omega)
  have z1 : 2 * y ≠ 0 := by omega
  have e4 : Int.tdiv (2 * x + y) (2 * y) = (2 * x + y) / (2 * y) := Int.tdiv_eq_ediv_of_nonneg (by omega)
  go_enter Try.func67, Try.ntmps67
  go_wp2
  go_ret
  have q0 : 0 ≤ (2 * x + y) / (2 * y) := Int.ediv_nonneg (by omega) (by omega)
  have q1 : (2 * x + y) / (2 * y) ≤ 2 * x + y := Int.ediv_le_self _ (by omega)
  have e5 : wrap64 ((2 * x + y) / (2 * y)) = (2 * x + y) / (2 * y) := by unfold wrap64; omega
  exact ⟨congrArg (fun z => Ending.returned (Value.int .i64 z)) e5, rfl⟩
/-- The places filled ahead of a round with h. -/
def pw (h i : Nat) : Bool := i % h == 0
theorem vals_one (k : IntKind) (xs : List Int) : (vals k xs).all (·.oneCell') = true := by
  rw [Array.all_eq_true_iff_forall_mem]
  intro x hx
  simp [vals] at hx
  obtain ⟨y, _, rfl⟩ := hx
  rfl
theorem cells0 : Try.zeroCells88 = vals .i64 (sel (fun _ => false)) := by kernel_rfl
theorem cells1 : Try.zeroCells88.setIfInBounds 0 (.int .i64 16777216) = vals .i64 (sel (pw 1024)) := by kernel_rfl
theorem root_e : ∀ e : Fin 10, arith_Root.f 60 ((16777216 + qt (2 ^ (e.val + 1))) * 8388608) = some (qt (2 ^ e.val)) := by decide +kernel
theorem root_pos : ∀ e : Fin 10, 0 < qt (2 ^ e.val) := by decide +kernel
theorem pow_e : ∀ e : Fin 10, 1 < 2 ^ (e.val + 1) ∧ 2 ^ (e.val + 1) ≤ 1024 ∧ 2 ^ (e.val + 1) = 2 * 2 ^ e.val ∧ 1024 % 2 ^ (e.val + 1) = 0 ∧ 0 < 2 ^ e.val := by decide
/-- .. and in it, ahead of place a. -/
def pin (h a i : Nat) : Bool := i % h == 0 || (decide (h ≤ i ∧ i < a) && i % (h / 2) == 0)
theorem pin_first (h j : Nat) (hh : 0 < h) : pw h j = pin h ((0 + 1) * h) j := by
  have : decide (h ≤ j ∧ j < (0 + 1) * h) = false := by rw [decide_eq_false_iff_not]; omega
  unfold pw pin
  rw [this]; simp
theorem pin_at (h a k : Nat) : pin h a (k * h) = true := by simp [pin]
/-- A place in the midst. -/
theorem mid_mod {g k j : Nat} (hg : 0 < g) (h1 : k * (2 * g) ≤ j) (h2 : j < (k + 1) * (2 * g)) (h3 : j % g = 0) : j = k * (2 * g) ∨ j = k * (2 * g) + g := by
  obtain ⟨q, rfl⟩ : ∃ q, j = q * g := ⟨j / g, (Nat.div_mul_cancel (Nat.dvd_of_mod_eq_zero h3)).symm⟩
  have e1 : k * (2 * g) = (2 * k) * g := by rw [Nat.mul_comm 2 k, Nat.mul_assoc]
  have e2 : (k + 1) * (2 * g) = (2 * k + 2) * g := by rw [show 2 * k + 2 = (k + 1) * 2 from by omega, Nat.mul_assoc]
  rw [e1] at h1 ⊢
  rw [e2] at h2
  have a1 : 2 * k ≤ q := Nat.le_of_mul_le_mul_right h1 hg
  have a2 : q < 2 * k + 2 := Nat.lt_of_mul_lt_mul_right h2
  rcases (by omega : q = 2 * k ∨ q = 2 * k + 1) with rfl | rfl
  · exact .inl rfl
  · right; rw [Nat.add_mul, Nat.one_mul]
theorem pin_step (g k j : Nat) (hg : 0 < g) : pin (2 * g) ((k + 1 + 1) * (2 * g)) j = (pin (2 * g) ((k + 1) * (2 * g)) j || j == (k + 1) * (2 * g) + g) := by
  have e0 : 2 * g / 2 = g := by omega
  unfold pin
  rw [e0]
  by_cases h1 : j % (2 * g) = 0
  · simp [h1]
  by_cases h2 : j % g = 0
  · by_cases h3 : j < (k + 1) * (2 * g)
    · have h4 : j < (k + 1 + 1) * (2 * g) := by rw [Nat.add_mul]; omega
      have h5 : (j == (k + 1) * (2 * g) + g) = false := by rw [beq_eq_false_iff_ne]; omega
      simp [h3, h4, h5]
    · by_cases h4 : j < (k + 1 + 1) * (2 * g)
      · rcases mid_mod hg (by omega) h4 h2 with rfl | rfl
        · exact absurd (Nat.mul_mod_left _ _) h1
        · have h6 : 2 * g ≤ (k + 1) * (2 * g) + g := by rw [Nat.add_mul]; omega
          simp [h6, h2, h4]
      · have h5 : (j == (k + 1) * (2 * g) + g) = false := by rw [beq_eq_false_iff_ne]; rw [Nat.add_mul] at h4; omega
        simp [h3, h4, h5]
  · have h5 : (j == (k + 1) * (2 * g) + g) = false := by
      rw [beq_eq_false_iff_ne]
      rintro rfl
      apply h2
      rw [show (k + 1) * (2 * g) + g = (2 * (k + 1) + 1) * g from by rw [Nat.add_mul (2 * (k + 1)), Nat.mul_comm 2 (k + 1), Nat.mul_assoc, Nat.one_mul]]
      exact Nat.mul_mod_left _ _
    have h6 : (j % (2 * g) == 0) = false := by rw [beq_eq_false_iff_ne]; exact h1
    have h7 : (j % g == 0) = false := by rw [beq_eq_false_iff_ne]; exact h2
    rw [h5, h6, h7]
    simp
theorem pin_last (g j : Nat) (hg : 0 < g) (hj : j < 1025) (hd : 1024 % (2 * g) = 0) : pw g j = (pin (2 * g) 1024 j || j == g) := by
  have e0 : 2 * g / 2 = g := by omega
  unfold pin pw
  rw [e0]
  by_cases h2 : j % g = 0
  · by_cases h1 : j % (2 * g) = 0
    · simp [h1, h2]
    · by_cases h3 : 2 * g ≤ j
      · have h4 : j < 1024 := by
          rcases Nat.lt_or_ge j 1024 with h | h
          · exact h
          · obtain rfl : j = 1024 := by omega
            exact absurd hd h1
        simp [h2, h3, h4]
      · rcases mid_mod (k := 0) hg (by omega) (by omega) h2 with h | h
        · rw [h] at h1; simp at h1
        · have : j = g := by omega
          subst this; simp
  · have h5 : (j == g) = false := by
      rw [beq_eq_false_iff_ne]
      rintro rfl
      exact h2 (Nat.mod_self _)
    have h1 : (j % (2 * g) == 0) = false := by
      rw [beq_eq_false_iff_ne]
      intro h
      exact h2 (Nat.mod_eq_zero_of_dvd (Nat.dvd_trans (Nat.dvd_mul_left g 2) (Nat.dvd_of_mod_eq_zero h)))
    have h7 : (j % g == 0) = false := by rw [beq_eq_false_iff_ne]; exact h2
    rw [h5, h1, h7]
    simp
end Go.Proofs.Ytoooienmcogbhaa.Bnd
