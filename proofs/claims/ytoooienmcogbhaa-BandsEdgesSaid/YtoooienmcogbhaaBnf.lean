/-
  The walk of bands.Of, and both Edges; no condition but that the argument is an int.
-/
import Derived.Test.YtoooienmcogbhaaU2
import Derived.Test.YtoooienmcogbhaaPBandsEdgesx1
set_option linter.unusedVariables false
set_option linter.unusedSimpArgs false
namespace Go.Proofs.Ytoooienmcogbhaa.Bnd
open Go.RowKit Go.Proofs.Ytoooienmcogbhaa Go.Proofs.YtoooienmcogbhaaW.PrintWords Go.Proofs.YtoooienmcogbhaaW.PrintLast Go.Proofs.YtoooienmcogbhaaW.PrintMore
/-- Where bands begin. -/
def EL : List Int := [0, 4, 8, 12, 16, 20, 24, 28, 32, 40, 48, 56, 64, 80, 96, 112, 128, 160, 192, 256, 352, 512]
def el (n : Nat) : Int := EL.getD n 0
theorem EL_len : EL.length = 22 := rfl
theorem EL_get (n : Nat) (h : n < EL.length) : EL[n] = el n := by simp [el, h]
/-- The band of a line. -/
def IsBand (x r : Int) : Prop := ((x < 0 ∨ 512 ≤ x) ∧ r = -1) ∨ (0 ≤ x ∧ x < 512 ∧ ∃ n : Nat, n < 21 ∧ r = n ∧ el n ≤ x ∧ x < el (n + 1))
theorem Edges_row (w : World) : Calls Try.prog 47 #[] w fun e w' => ∃ g cap, e = .returned (.slice (some ⟨g, 0, none⟩) 22 cap) ∧ w.heap.size ≤ g ∧ RowI w' 3 .i64 g cap EL ∧ Below w.heap.size w w' := by
  refine (PBandsEdges.bands_Edges.calls EL w rfl).mono ?_
  rintro e w' ⟨v, rfl, hR, hb⟩
  obtain ⟨g, cap, rfl, hg, hr⟩ := rowI_of_R hR (by rw [EL_len]; omega)
  exact ⟨g, cap, rfl, hg, hr, hb⟩
theorem refEdges_row (w : World) : Calls Try.prog 48 #[] w fun e w' => ∃ g cap, e = .returned (.slice (some ⟨g, 0, none⟩) 22 cap) ∧ w.heap.size ≤ g ∧ RowI w' 3 .i64 g cap EL ∧ Below w.heap.size w w' := by
  refine (PBandsEdges.sidebandref04_Edges.calls 200 EL w (by decide +kernel)).mono ?_
  rintro e w' ⟨v, rfl, hR, hb⟩
  obtain ⟨g, cap, rfl, hg, hr⟩ := rowI_of_R hR (by rw [EL_len]; omega)
  exact ⟨g, cap, rfl, hg, hr, hb⟩
theorem el_ends : el 0 = 0 ∧ el 21 = 512 := by decide
theorem el_bd : ∀ n : Fin 22, 0 ≤ el n.val ∧ el n.val ≤ 512 := by decide
attribute [local irreducible] EL el
theorem Of_calls (x : Int) (w : World) : Calls Try.prog 49 #[.int .i64 x] w fun e w' => ∃ r, e = .returned (.int .i64 r) ∧ IsBand x r ∧ Below w.heap.size w w' := by
  by_cases h0 : x < 0
  · go_enter Try.func49, Try.ntmps49
    go_wp2_with fail
    go_ret
    exact ⟨_, rfl, .inl ⟨.inl h0, rfl⟩, Below.refl _ _⟩
  by_cases h1 : 512 ≤ x
  · go_enter Try.func49, Try.ntmps49
    go_wp2_with fail
    go_ret
    exact ⟨_, rfl, .inl ⟨.inr h1, rfl⟩, Below.refl _ _⟩
  replace h0 : 0 ≤ x := by omega
  replace h1 : x < 512 := by omega
  go_enter Try.func49, Try.ntmps49
  go_wp2_with (first
    | (go_at_call 47; refine (Edges_row _).mono ?_; rintro e w1 ⟨g, cap, rfl, hg, hr, hb⟩; have hcap := hr.len; rw [EL_len] at hcap))
  go_loopw [14] (fun v wr => ∃ n : Nat, n ≤ 21 ∧ v = .int .i64 (n : Int) ∧ Hid (el n ≤ x) ∧ wr = w1) (fun v _ => 21 - (intOf v).toNat)
  case atStart => exact ⟨0, by omega, rfl, (show el 0 ≤ x by rw [el_ends.1]; omega), rfl⟩
  case round =>
    obtain ⟨n, hn, rfl, hx, rfl⟩ := hrel
    have hl := el_ends.2
    by_cases hlt : n < 21
    · have c := hr.cell (i := n + 1) (by rw [EL_len]; omega)
      rw [EL_get _ (by rw [EL_len]; omega)] at c
      have c' : wr.cell? ⟨g, 1 + n, none⟩ = some (.int .i64 (el (n + 1))) := by rw [Nat.add_comm]; exact c
      by_cases hx2 : x < el (n + 1)
      · go_wp2_with fail
        go_ret
        exact ⟨_, rfl, .inr ⟨h0, h1, n, hlt, rfl, hx.out, hx2⟩, hb⟩
      · go_wp2_with fail
        refine ⟨⟨n + 1, by omega, by push_cast; rfl, (show el (n + 1) ≤ x by omega), trivial⟩, by simp [intOf]; omega⟩
    · obtain rfl : n = 21 := by omega
      have := hx.out
      omega
end Go.Proofs.Ytoooienmcogbhaa.Bnd
