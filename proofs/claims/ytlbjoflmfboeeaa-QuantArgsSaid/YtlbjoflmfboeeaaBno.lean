/-
  The walks of bands.Edges and bands.Of; no condition but that the argument is an int.
-/
import Derived.Test.YtlbjoflmfboeeaaU2
import Derived.Test.YtlbjoflmfboeeaaChecked
set_option linter.unusedVariables false
set_option linter.unusedSimpArgs false
namespace Go.Proofs.Ytlbjoflmfboeeaa.Bno
open Go.RowKit Go.Proofs.Ytlbjoflmfboeeaa Go.Proofs.YtlbjoflmfboeeaaW.PrintWords Go.Proofs.YtlbjoflmfboeeaaW.PrintLast Go.Proofs.YtlbjoflmfboeeaaW.PrintMore
/-- Where bands begin. -/
def EL : List Int := [0, 4, 8, 12, 16, 20, 24, 28, 32, 40, 48, 56, 64, 80, 96, 112, 128, 160, 192, 256, 352, 512]
def el (n : Nat) : Int := EL.getD n 0
theorem EL_len : EL.length = 22 := rfl
theorem EL_get (n : Nat) (h : n < EL.length) : EL[n] = el n := by simp [el, h]
/-- The band of a line. -/
def bandOf (x : Int) : Int := if x < 0 then -1 else if 512 ≤ x then -1 else ((List.range 21).countP (fun n => decide (el (n + 1) ≤ x)) : Nat)
theorem band_all : ∀ x : Fin 512, (List.range 21).countP (fun n => decide (el (n + 1) ≤ (x.val : Int))) < 21 ∧ el ((List.range 21).countP (fun n => decide (el (n + 1) ≤ (x.val : Int)))) ≤ (x.val : Int) ∧ (x.val : Int) < el ((List.range 21).countP (fun n => decide (el (n + 1) ≤ (x.val : Int))) + 1) := by decide +kernel
theorem el_mono : ∀ i j : Fin 22, i.val < j.val → el i.val < el j.val := by decide
theorem el_ends : el 0 = 0 ∧ el 21 = 512 := by decide
theorem band_spec (x : Int) (h0 : 0 ≤ x) (h1 : x < 512) : ∃ n : Nat, n < 21 ∧ bandOf x = n ∧ el n ≤ x ∧ x < el (n + 1) := by
  obtain ⟨m, rfl⟩ : ∃ m : Nat, x = m := ⟨x.toNat, by omega⟩
  obtain ⟨a, b, c⟩ := band_all ⟨m, by omega⟩
  exact ⟨_, a, by unfold bandOf; rw [if_neg (by omega), if_neg (by omega)], b, c⟩
theorem band_one (x : Int) (n : Nat) (hn : n < 21) (h0 : el n ≤ x) (h1 : x < el (n + 1)) : bandOf x = n := by
  have hx0 : 0 ≤ x := by
    rcases Nat.eq_zero_or_pos n with h | h
    · rw [h, el_ends.1] at h0; exact h0
    · have := el_mono ⟨0, by omega⟩ ⟨n, by omega⟩ h
      have := el_ends.1
      simp only at *
      omega
  have hx1 : x < 512 := by
    rcases Nat.lt_or_ge (n + 1) 21 with h | h
    · have := el_mono ⟨n + 1, by omega⟩ ⟨21, by omega⟩ h
      have := el_ends.2
      simp only at *
      omega
    · obtain rfl : n = 20 := by omega
      rw [show 20 + 1 = 21 from rfl, el_ends.2] at h1; exact h1
  obtain ⟨m, hm, e, a, b⟩ := band_spec x hx0 hx1
  rw [e]
  rcases Nat.lt_trichotomy m n with h | h | h
  · rcases Nat.eq_or_lt_of_le (show m + 1 ≤ n by omega) with h2 | h2
    · rw [h2] at b; omega
    · have := el_mono ⟨m + 1, by omega⟩ ⟨n, by omega⟩ h2
      simp only at this
      omega
  · rw [h]
  · rcases Nat.eq_or_lt_of_le (show n + 1 ≤ m by omega) with h2 | h2
    · rw [h2] at h1; omega
    · have := el_mono ⟨n + 1, by omega⟩ ⟨m, by omega⟩ h2
      simp only at this
      omega
theorem EL_vals : vals .i64 EL = #[.int .i64 0, .int .i64 4, .int .i64 8, .int .i64 12, .int .i64 16, .int .i64 20, .int .i64 24, .int .i64 28, .int .i64 32, .int .i64 40, .int .i64 48, .int .i64 56, .int .i64 64, .int .i64 80, .int .i64 96, .int .i64 112, .int .i64 128, .int .i64 160, .int .i64 192, .int .i64 256, .int .i64 352, .int .i64 512] := rfl
attribute [local irreducible] EL el bandOf
theorem Edges_row (w : World) : Calls Try.prog 85 #[] w fun e w' => ∃ g cap, e = .returned (.slice (some ⟨g, 0, none⟩) 22 cap) ∧ w.heap.size ≤ g ∧ RowI w' 3 .i64 g cap EL ∧ Below w.heap.size w w' := by
  go_enter Try.func85, Try.ntmps85
  go_wp2_with fail
  go_ret
  refine ⟨w.heap.size, 22, rfl, Nat.le_refl _, ⟨vals .i64 EL, ?_, by rw [EL_len]; omega, by decide, by rw [vals_size, EL_len], fun i h => vals_get h⟩, (Below.refl _ _).alloc (Nat.le_refl _) _⟩
  rw [EL_vals]
  exact Blk.new w _ _
theorem Of_calls (x r : Int) (w : World) (h : bandOf x = r) : Calls Try.prog 80 #[.int .i64 x] w fun e w' => e = .returned (.int .i64 r) ∧ Below w.heap.size w w' := by
  subst h
  by_cases h0 : x < 0
  · have e : bandOf x = -1 := by unfold bandOf; rw [if_pos h0]
    rw [e]
    clear e
    go_enter Try.func80, Try.ntmps80
    go_wp2_with fail
    go_ret
    exact ⟨rfl, Below.refl _ _⟩
  by_cases h1 : 512 ≤ x
  · have e : bandOf x = -1 := by unfold bandOf; rw [if_neg h0, if_pos h1]
    rw [e]
    clear e
    go_enter Try.func80, Try.ntmps80
    go_wp2_with fail
    go_ret
    exact ⟨rfl, Below.refl _ _⟩
  replace h0 : 0 ≤ x := by omega
  replace h1 : x < 512 := by omega
  go_enter Try.func80, Try.ntmps80
  go_wp2_with (first
    | (go_at_call 85; refine (Edges_row _).mono ?_; rintro e w1 ⟨g, cap, rfl, hg, hr, hb⟩; have hcap := hr.len; rw [EL_len] at hcap))
  go_loopw [14] (fun v wr => ∃ n : Nat, n ≤ 21 ∧ v = .int .i64 (n : Int) ∧ Hid (el n ≤ x) ∧ wr = w1) (fun v _ => 21 - (intOf v).toNat)
  case atStart => exact ⟨0, by omega, rfl, (show el 0 ≤ x by rw [el_ends.1]; omega), rfl⟩
  case round =>
    obtain ⟨n, hn, rfl, hx, rfl⟩ := hrel
    have hl := el_ends.2
    by_cases hlt : n < 21
    · have c := hr.cell (i := n + 1) (by rw [EL_len]; omega)
      rw [EL_get _ (by rw [EL_len]; omega)] at c
      have c' : wr.cell? ⟨g, 1 + n, none⟩ = some (.int .i64 (el (n + 1))) := by rw [Nat.add_comm]; exact c
      by_cases hx2 : x < el (n + 1)
      · go_wp2_with fail
        go_ret
        refine ⟨?_, hb⟩
        rw [band_one x n hlt hx.out hx2]
        rfl
      · go_wp2_with fail
        refine ⟨⟨n + 1, by omega, by push_cast; rfl, (show el (n + 1) ≤ x by omega), trivial⟩, by simp [intOf]; omega⟩
    · obtain rfl : n = 21 := by omega
      have := hx.out
      omega
end Go.Proofs.Ytlbjoflmfboeeaa.Bno
