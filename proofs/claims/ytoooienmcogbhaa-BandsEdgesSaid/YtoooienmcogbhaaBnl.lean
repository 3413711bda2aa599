/-
  BandsRules: lives, and the law's own walk; no condition but that the argument is an int.
-/
import Derived.Test.YtoooienmcogbhaaBnr
set_option linter.unusedVariables false
set_option linter.unusedSimpArgs false
namespace Go.Proofs.Ytoooienmcogbhaa.Bnd
open Go.RowKit Go.Proofs.Ytoooienmcogbhaa Go.Proofs.YtoooienmcogbhaaW.PrintWords Go.Proofs.YtoooienmcogbhaaW.PrintLast Go.Proofs.YtoooienmcogbhaaW.PrintMore
attribute [local irreducible] qt QT sel cv cb cosv
theorem lives_calls (w : World) : Calls Try.prog 40 #[] w fun e w' => e = .returned (.bool true) ∧ Below w.heap.size w w' := by
  have q := cos_512
  go_enter Try.func40, Try.ntmps40
  go_wp2_with (first
    | (go_at_call 41; refine (New_calls _).mono ?_; rintro e w1 ⟨g, hg, rfl, hc, hb⟩)
    | (go_at_call 43; refine (Cos_some hc _).mono ?_; rintro e w2 ⟨rfl, rfl⟩))
  go_ret
  exact ⟨rfl, hb⟩
/-- What the law asks of the slope. -/
theorem slope (r : Int) (h0 : 0 ≤ r) (h1 : r < 128) : (0 ≤ risev r * risev r ∧ risev r * risev r ≤ 281474976710656) ∧ (0 ≤ risev (127 - r) * risev (127 - r) ∧ risev (127 - r) * risev (127 - r) ≤ 281474976710656) ∧ (-16777216 ≤ risev r ∧ risev r ≤ 16777216) ∧ (-16777216 ≤ risev (127 - r) ∧ risev (127 - r) ≤ 16777216)
    ∧ -4294967296 < risev r * risev r + risev (127 - r) * risev (127 - r) - 281474976710656 ∧ risev r * risev r + risev (127 - r) * risev (127 - r) - 281474976710656 < 4294967296 := by
  obtain ⟨a, ha⟩ : ∃ a : Nat, (a : Int) = 1024 - 4 * (2 * r + 1) := ⟨(1024 - 4 * (2 * r + 1)).toNat, by omega⟩
  unfold risev
  rw [if_neg (by omega), if_neg (by omega), if_neg (by omega), if_neg (by omega), cos_a (1024 - 4 * (2 * r + 1)) a (by omega) (by omega), cos_a (1024 - 4 * (2 * (127 - r) + 1)) (1024 - a) (by omega) (by omega)]
  obtain ⟨l0, l1, l2⟩ := leg ⟨a, by omega⟩
  obtain ⟨m0, _⟩ := leg ⟨1024 - a, by omega⟩
  have b := qt_bd ⟨a, by omega⟩
  have b2 := qt_bd ⟨1024 - a, by omega⟩
  simp only at l0 l1 l2 m0 b b2
  have n0 := Int.mul_nonneg b.1 b.1
  have n1 := Int.mul_nonneg b2.1 b2.1
  refine ⟨⟨n0, l0⟩, ⟨n1, m0⟩, by omega, by omega, by omega, by omega⟩
theorem fall_at (q : Int) (h0 : 0 ≤ q) (h1 : q < 1024) : cosv (q + 1) < cosv q := by
  obtain ⟨a, rfl⟩ : ∃ a : Nat, q = a := ⟨q.toNat, by omega⟩
  rw [cos_a (a : Int) a (by omega) (by omega), cos_a ((a : Int) + 1) (a + 1) (by omega) (by omega)]
  exact falls ⟨a, by omega⟩
theorem rules_walk (i : Int) (W : World) (wf : (Lit.int .i64 i).wf = true) : Calls Try.prog 10 #[.int .i64 i] W fun e w' => e = .returned (.bool true) ∧ Below W.heap.size W w' := by
  have hi := wf
  simp [Lit.wf, IntKind.min, IntKind.max, IntKind.signed, IntKind.bits] at hi
  obtain ⟨k, hk⟩ : ∃ k, Int.tmod i 1000000 = k := ⟨_, rfl⟩
  have hkb : -1000000 < k ∧ k < 1000000 := by rw [← hk]; exact ⟨by have := Int.tmod_lt_of_pos (-i) (show (0 : Int) < 1000000 by decide); rw [Int.neg_tmod] at this; omega, Int.tmod_lt_of_pos i (by decide)⟩
  obtain ⟨r1, r2, r3, r4, r5, r6, r7, r8⟩ := rules k
  obtain ⟨q, hq⟩ : ∃ q : Int, q = i % 1024 := ⟨_, rfl⟩
  have hqb : 0 ≤ q ∧ q < 1024 := by omega
  have f1 := fall_at q hqb.1 hqb.2
  obtain ⟨s1, s2, s3, s4, s5, s6⟩ := slope (q % 128) (by omega) (by omega)
  have u1 : (IntKind.u64.wrap i).tmod 1024 = q := by
    rw [show IntKind.u64.wrap i = i % 18446744073709551616 from rfl, Int.tmod_eq_emod_of_nonneg (by omega)]; omega
  have u2 : q.tmod 128 = q % 128 := Int.tmod_eq_emod_of_nonneg (by omega)
  have hrb : 0 ≤ q % 128 ∧ q % 128 < 128 := by omega
  have hb2 : ∀ u, -16777216 ≤ cosv u ∧ cosv u ≤ 16777216 := fun u => (rules u).2.2.2.1
  have dq := hb2 q
  have dq1 := hb2 (q + 1)
  have dd := hb2 (k - 1024)
  clear hb2 hq wf
  generalize q % 128 = r at *
  generalize hC : cosv k = C at *
  generalize hD : cosv (k - 1024) = D at *
  generalize hE : risev r = E at *
  generalize hF : risev (127 - r) = F at *
  generalize hX : C * C = X at *
  generalize hY : D * D = Y at *
  generalize hU : E * E = U at *
  generalize hV : F * F = V at *
  have e1 : IntKind.i64.wrap (-k) = -k := wrapI64 (by omega) (by omega)
  have e2 : IntKind.i64.wrap (k + 2048) = k + 2048 := wrapI64 (by omega) (by omega)
  have e3 : IntKind.i64.wrap (k + 4096) = k + 4096 := wrapI64 (by omega) (by omega)
  have e4 : IntKind.i64.wrap (k - 1024) = k - 1024 := wrapI64 (by omega) (by omega)
  have e5 : IntKind.i32.wrap C = C := wrapI32 (by omega) (by omega)
  go_enter Try.func10, Try.ntmps10
  go_wp2_with (first
    | (go_at_call 40; refine (lives_calls _).mono ?_; rintro e w1 ⟨rfl, hb1⟩)
    | (go_at_call 41; refine (New_calls _).mono ?_; rintro e w2 ⟨g, hg, rfl, hc, hb2⟩)
    | (go_at_call 43; refine (Cos_some hc _).mono ?_; rintro e w3 ⟨rfl, rfl⟩)
    | (go_at_call 45; refine (Rise_some hc _).mono ?_; rintro e w3 ⟨rfl, rfl⟩))
  go_ret
  exact ⟨rfl, hb1.trans (hb2.mono hb1.size)⟩
end Go.Proofs.Ytoooienmcogbhaa.Bnd
