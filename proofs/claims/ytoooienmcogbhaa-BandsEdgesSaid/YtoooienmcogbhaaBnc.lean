/-
  The walks of Circle.Cos and Circle.Rise; no condition but those told.
-/
import Derived.Test.YtoooienmcogbhaaBnn
set_option linter.unusedVariables false
set_option linter.unusedSimpArgs false
namespace Go.Proofs.Ytoooienmcogbhaa.Bnd
open Go.RowKit Go.Proofs.Ytoooienmcogbhaa Go.Proofs.YtoooienmcogbhaaW.PrintWords Go.Proofs.YtoooienmcogbhaaW.PrintLast Go.Proofs.YtoooienmcogbhaaW.PrintMore
theorem and_4095 (n : Int) : Go.bits .and .i64 n 4095 = n % 4096 := by
  have hc : (BitVec.ofInt 64 4095).toNat = 2 ^ 12 - 1 := by decide
  have key : (BitVec.ofInt 64 n &&& BitVec.ofInt 64 4095).toNat = (n % ((2 ^ 64 : Nat) : Int)).toNat % 2 ^ 12 := by
    rw [BitVec.toNat_and, BitVec.toNat_ofInt, hc, Nat.and_two_pow_sub_one_eq_mod]
  show IntKind.i64.wrap ((BitVec.ofInt 64 n &&& BitVec.ofInt 64 4095).toNat : Nat) = n % 4096
  rw [key, IntKind.wrap_i64]
  omega
/-- A table of cosines. -/
def Circ (w : World) (g : Nat) : Prop := Blk w g 87 (vals .i32 (fillTo cv 4096 4096))
def cosv (u : Int) : Int := cv (u % 4096).toNat
attribute [local irreducible] qt QT sel cv cb
theorem Cos_none (x : Int) (w : World) : Calls Try.prog 43 #[.pointer none, .int .i64 x] w fun e w' => e = .returned (.int .i32 0) ∧ w' = w := by
  go_enter Try.func43, Try.ntmps43
  go_wp2_with fail
  go_ret
  exact ⟨rfl, rfl⟩
theorem Cos_some {w : World} {g : Nat} (h : Circ w g) (x : Int) : Calls Try.prog 43 #[.pointer (some ⟨g, 0, none⟩), .int .i64 x] w fun e w' => e = .returned (.int .i32 (cosv x)) ∧ w' = w := by
  obtain ⟨m, hm⟩ : ∃ m : Nat, (m : Int) = x % 4096 := ⟨(x % 4096).toNat, by omega⟩
  have hb : Go.bits .and .i64 x 4095 = (m : Int) := by rw [and_4095, hm]
  have hv : cosv x = cv m := by unfold cosv; rw [← hm]; rfl
  have im : (m : Int) < 4096 := by omega
  have c := Blk.cell (v := .int .i32 (cv m)) (i := m) h (by rw [vals_get (by rw [fillTo_len]; omega), fillTo_lt _ _ _ _ (by omega) (by omega)])
  rw [hv]
  clear hv hm
  go_enter Try.func43, Try.ntmps43
  go_wp2_with fail
  go_ret
  exact ⟨rfl, rfl⟩
theorem Rise_none (x : Int) (w : World) : Calls Try.prog 45 #[.pointer none, .int .i64 x] w fun e w' => e = .returned (.int .i32 0) ∧ w' = w := by
  go_enter Try.func45, Try.ntmps45
  go_wp2_with fail
  go_ret
  exact ⟨rfl, rfl⟩
def risev (x : Int) : Int := if x < 0 then 0 else if 128 ≤ x then 16777216 else cosv (1024 - 4 * (2 * x + 1))
theorem Rise_some {w : World} {g : Nat} (h : Circ w g) (x : Int) : Calls Try.prog 45 #[.pointer (some ⟨g, 0, none⟩), .int .i64 x] w fun e w' => e = .returned (.int .i32 (risev x)) ∧ w' = w := by
  unfold risev
  by_cases h0 : x < 0
  · rw [if_pos h0]
    go_enter Try.func45, Try.ntmps45
    go_wp2_with fail
    go_ret
    exact ⟨rfl, rfl⟩
  · rw [if_neg h0]
    by_cases h1 : 128 ≤ x
    · rw [if_pos h1]
      go_enter Try.func45, Try.ntmps45
      go_wp2_with fail
      go_ret
      exact ⟨rfl, rfl⟩
    · rw [if_neg h1]
      have e1 : IntKind.i64.wrap (2 * x) = 2 * x := wrapI64 (by omega) (by omega)
      have e2 : IntKind.i64.wrap (2 * x + 1) = 2 * x + 1 := wrapI64 (by omega) (by omega)
      have e3 : IntKind.i64.wrap (4 * (2 * x + 1)) = 4 * (2 * x + 1) := wrapI64 (by omega) (by omega)
      have e4 : IntKind.i64.wrap (1024 - 4 * (2 * x + 1)) = 1024 - 4 * (2 * x + 1) := wrapI64 (by omega) (by omega)
      go_enter Try.func45, Try.ntmps45
      go_wp2_with (first
        | (go_at_call 43; refine (Cos_some h _).mono ?_; rintro e w1 ⟨rfl, rfl⟩))
      go_ret
      exact ⟨rfl, rfl⟩
end Go.Proofs.Ytoooienmcogbhaa.Bnd
