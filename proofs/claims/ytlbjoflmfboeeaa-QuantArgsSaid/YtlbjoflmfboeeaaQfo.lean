/-
  fill's condition as a test; a plain text.
-/
import Derived.Test.YtlbjoflmfboeeaaQfl
set_option linter.unusedVariables false
namespace Go.Proofs.Ytlbjoflmfboeeaa.Bno
open Go.RowKit Go.Proofs.Ytlbjoflmfboeeaa Go.Proofs.YtlbjoflmfboeeaaW.PrintWords Go.Proofs.YtlbjoflmfboeeaaW.PrintLast Go.Proofs.YtlbjoflmfboeeaaW.PrintMore
def fillOkB (l c : List Int) : Bool := decide (l.length ≤ 1500) && l.all (fun x => decide (-2147483648 ≤ x ∧ x < 2147483648)) && decide (c.length = 21) && (List.range 21).all (fun b => decide (0 ≤ rd c (b : Int) ∧ rd c (b : Int) ≤ 26))
theorem fillOk_iff (l c : List Int) : fillOkB l c = true ↔ FillOk l c := by
  unfold fillOkB FillOk
  simp only [Bool.and_eq_true, decide_eq_true_eq, List.all_eq_true, List.mem_range, and_assoc]
def fillF (l c : List Int) (over : Bool) : Option (List Int × List Int) := if fillOkB l c = true then some ((List.range 512).map (fv l c over), (List.range 512).map (fv l c over)) else none
theorem fillF_calls (A0 : Option Addr) (c0 : Nat) (l0 : List Int) (A1 : Option Addr) (c1 : Nat) (l1 : List Int) (a2 : Bool) (r1 r2 : List Int) (w : World) (hr0 : Kd.C (Kd.int .i32) w A0 l0.length l0) (hc0 : l0.length ≤ c0) (hr1 : Kd.C (Kd.int .i64) w A1 l1.length l1) (hc1 : l1.length ≤ c1) (h : fillF l0 l1 a2 = some (r1, r2)) :
    Calls Try.prog 50 #[.slice A0 l0.length c0, .slice A1 l1.length c1, .bool a2] w fun e w' => ∃ v0_ v1_ : Value, e = .returned (.tuple #[v0_, v1_]) ∧ Kd.R (Kd.int .i32) 21 w' w.heap.size (fun _ => True) v0_ r1 ∧ Kd.R (Kd.int .i64) 2 w' w.heap.size (fun _ => True) v1_ r2 ∧ Below w.heap.size w w' := by
  unfold fillF at h
  by_cases hk : fillOkB l0 l1 = true
  · rw [if_pos hk] at h
    injection h with h
    injection h with h1 h2
    subst h1 h2
    exact fill_calls A0 c0 l0 A1 c1 l1 a2 w hr0 hc0 hr1 hc1 ((fillOk_iff _ _).1 hk)
  · rw [if_neg hk] at h
    cases h
end Go.Proofs.Ytlbjoflmfboeeaa.Bno
