/-
  Words: slices of numbers that come in as arguments. Plain theorems; no condition.
-/
import Derived.Test.YtdekdcleeignoaaDoorU3
set_option linter.unusedVariables false
namespace Go.Proofs.YtdekdcleeignoaaDoor
open Go.RowKit

/-- A slice of numbers as it comes in: cap cells, of which the first len are told. -/
def IsRow (k : IntKind) (w : World) (a : Option Addr) (len cap : Nat) (zs : List Int) : Prop :=
  (a = none ∧ len = 0 ∧ cap = 0 ∧ zs = []) ∨
  ∃ x, a = some x ∧ len ≤ cap ∧ cap ≤ maxLen ∧ zs.length = cap ∧ (∀ i, i < zs.length → w.cell? (x.add i) = some (.int k (zs.getD i 0))) ∧ ∀ n ∈ zs, (Lit.int k n).wf = true
theorem IsRow.take_len {k : IntKind} {w : World} {a : Option Addr} {len cap : Nat} {zs : List Int} (h : IsRow k w a len cap zs) : (zs.take len).length = len := by
  rw [List.length_take]
  rcases h with ⟨_, rfl, _, rfl⟩ | ⟨x, _, h1, _, h2, _⟩
  · rfl
  · omega
theorem IsRow.src {k : IntKind} {w : World} {a : Option Addr} {len cap : Nat} {zs : List Int} (h : IsRow k w a len cap zs) : Src w k (.slice a len cap) (zs.take len) := by
  have hl := h.take_len
  rcases h with ⟨rfl, rfl, rfl, rfl⟩ | ⟨x, rfl, h1, _, h2, h3, _⟩
  · exact ⟨none, 0, rfl, fun h => by simp at h⟩
  · refine ⟨some x, cap, by rw [hl], fun _ => ⟨x, rfl, fun j hj => ?_⟩⟩
    rw [h3 j (by omega)]
    congr 2
    rw [List.getElem_take, List.getD_eq_getElem?_getD, List.getElem?_eq_getElem (by omega)]; rfl
theorem IsRow.wf {k : IntKind} {w : World} {a : Option Addr} {len cap : Nat} {zs : List Int} (h : IsRow k w a len cap zs) : ∀ n ∈ zs.take len, (Lit.int k n).wf = true := by
  intro n hn
  have hn := List.mem_of_mem_take hn
  rcases h with ⟨_, _, _, rfl⟩ | ⟨x, _, _, _, _, _, h⟩
  · cases hn
  · exact h n hn
theorem wf_u8 {n : Int} (h : (Lit.int .u8 n).wf = true) : 0 ≤ n ∧ n ≤ 255 := by
  simp only [Lit.wf, Bool.and_eq_true, decide_eq_true_eq] at h
  have e1 : IntKind.min .u8 = 0 := by decide
  have e2 : IntKind.max .u8 = 255 := by decide
  rw [e1, e2] at h
  exact h
/-- What lies at the j-th place of a slice that came in. -/
theorem Src.cell {w : World} {k : IntKind} {A : Option Addr} {n c : Nat} {ys : List Int} (h : Src w k (.slice A n c) ys) {j : Nat} (hj : j < ys.length) : ∃ ad, A = some ad ∧ w.cell? (ad.add j) = some (.int k ys[j]) := by
  obtain ⟨A', c', e, h⟩ := h
  injection e with e1 e2 e3
  subst e1
  obtain ⟨ad, e4, h⟩ := h (by omega)
  exact ⟨ad, e4, h j hj⟩
end Go.Proofs.YtdekdcleeignoaaDoor
