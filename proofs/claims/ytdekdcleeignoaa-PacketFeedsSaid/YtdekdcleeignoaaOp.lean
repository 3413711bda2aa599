/-
  Words: arguments opened to their cells, structs in structs and slices of these. Plain theorems; no condition.
-/
import Derived.Deep.Slices
import Derived.Deep.Fields
import Derived.ChangeSame
import Derived.ChangeOld
import Derived.RowKit
import Derived.OpenShut
set_option linter.unusedVariables false
namespace Go.Proofs.Ytdekdcleeignoaa.Op
open Go.ChangeShapes Go.WideShapes Go.Deep Go.RowKit

/-- The cells of a type that are no struct: how far behind, of which type. -/
def leafs (P : Program) : Nat → Nat → TypeId → List (Nat × TypeId)
  | 0, o, t => [(o, t)]
  | n + 1, o, t => match P.underlying t with
    | some (.struct fs) => fs.toList.flatMap fun f => leafs P n (o + f.offset) f.type
    | _ => [(o, t)]
/-- Each lies inside. -/
def leafsOk (P : Program) : Nat → TypeId → Bool
  | 0, t => P.cellsOf t == 1
  | n + 1, t => match P.underlying t with
    | some (.struct fs) => fs.toList.all fun f => decide (f.offset + P.cellsOf f.type ≤ P.cellsOf t) && leafsOk P n f.type
    | _ => P.cellsOf t == 1
section
variable {H : Type} {enc : TypeId × Value → H} {P : Program} {w : World} {base : Nat} {spare : Nat → Bool} {held : Bool}
theorem open_leafs : ∀ (n o fuel : Nat) (t : TypeId) (cs : List Value) (x : DataW H × List MemPlace), DataW.trod enc P w base spare held fuel t cs = some x → leafsOk P n t = true → cs.length = P.cellsOf t →
    ∀ p ∈ leafs P n o t, ∃ (i : Nat) (v : Value) (y : DataW H × List MemPlace) (m : Nat), p.1 = o + i ∧ i < P.cellsOf t ∧ cs[i]? = some v ∧ DataW.trod enc P w base spare held m p.2 [v] = some y
  | 0, o, fuel, t, cs, x, h, ok, hl, p, hp => by
    simp only [leafs, List.mem_singleton] at hp
    simp only [leafsOk, beq_iff_eq] at ok
    subst hp
    rw [ok] at hl
    match cs, hl with
    | [v], _ => exact ⟨0, v, x, fuel, rfl, by omega, rfl, h⟩
  | n + 1, o, fuel, t, cs, x, h, ok, hl, p, hp => by
    unfold leafs at hp
    unfold leafsOk at ok
    split at hp
    · rename_i fs hfs
      rw [hfs] at ok
      simp only at ok
      rw [List.mem_flatMap] at hp
      obtain ⟨f, hf, hp⟩ := hp
      have hok := List.all_eq_true.1 ok f hf
      simp only [Bool.and_eq_true, decide_eq_true_eq] at hok
      obtain ⟨ys, m, hm, hx, hc, hyl, hg⟩ := DataW.trod_struct hfs h
      obtain ⟨j, hj, hjf⟩ := List.getElem_of_mem hf
      have hfj : fs[j]? = some f := by
        rw [Array.getElem?_eq_some_iff]
        exact ⟨by simpa using hj, by simpa using hjf⟩
      have h1 := hg j f hfj
      have hjl : j < ys.length := by rw [hyl]; simpa using hj
      rw [List.getElem?_eq_getElem hjl] at h1
      obtain ⟨i, v, y, m', e1, e2, e3, e4⟩ := open_leafs n (o + f.offset) m f.type _ _ h1 hok.2 (by rw [List.length_take, List.length_drop, hl]; omega) p hp
      refine ⟨f.offset + i, v, y, m', by omega, by omega, ?_, e4⟩
      rw [List.getElem?_take, if_pos e2, List.getElem?_drop] at e3
      exact e3
    · rename_i hns
      simp only [List.mem_singleton] at hp
      subst hp
      have ok1 : P.cellsOf t = 1 := by
        split at ok
        · rename_i fs hfs
          exact absurd hfs (hns fs)
        · simpa using ok
      rw [ok1] at hl
      match cs, hl with
      | [v], _ => exact ⟨0, v, x, fuel, rfl, by omega, rfl, h⟩
/-- A slice of such. -/
theorem open_rows {t e : TypeId} {fuel : Nat} {cs : List Value} {x : DataW H × List MemPlace} {n C : Nat} (ht : P.underlying t = some (.slice e)) (ok : leafsOk P n e = true) (hC : P.cellsOf e = C) (h : DataW.trod enc P w base spare held fuel t cs = some x) :
    cs = [.slice none 0 0] ∨ ∃ (a : Addr) (len cap : Nat), cs = [.slice (some a) len cap] ∧ len ≤ cap ∧ cap ≤ maxLen ∧
      ∀ i, i < len → ∀ p ∈ leafs P n 0 e, ∃ (v : Value) (y : DataW H × List MemPlace) (m : Nat), w.cell? (a.add (i * C + p.1)) = some v ∧ DataW.trod enc P w base spare held m p.2 [v] = some y := by
  rcases open_slice ht h with ⟨h0, _⟩ | ⟨a, len, cap, m, k, D, Pl, rfl, hb, hl, hm, hmm, rfl, hx⟩
  · exact .inl h0
  · refine .inr ⟨a, len, cap, rfl, hl, hm, fun i hi p hp => ?_⟩
    have hlm : len ≤ m := by rw [hmm]; split <;> omega
    obtain ⟨cs', h1, h2⟩ := hx i (by omega)
    rw [hC] at h1
    obtain ⟨_, hlen, hcell⟩ := World.cells?_some h1
    obtain ⟨o, v, y, m', e1, e2, e3, e4⟩ := open_leafs n 0 k e cs' _ h2 ok (by rw [hlen, hC]) p hp
    rw [hC] at e2
    refine ⟨v, y, m', ?_, e4⟩
    rw [← add_add, show p.1 = o by omega, hcell o e2, e3]
theorem leaf_int {t : TypeId} {k : IntKind} {m : Nat} {v : Value} {y : DataW H × List MemPlace} (ht : P.underlying t = some (.int k)) (h : DataW.trod enc P w base spare held m t [v] = some y) : ∃ n, v = .int k n ∧ (Lit.int k n).wf = true := by
  obtain ⟨n, h1, _, h2⟩ := DataW.trod_int ht h
  simp only [List.cons.injEq, and_true] at h1
  exact ⟨n, h1, h2⟩
theorem leaf_bool {t : TypeId} {m : Nat} {v : Value} {y : DataW H × List MemPlace} (ht : P.underlying t = some .bool) (h : DataW.trod enc P w base spare held m t [v] = some y) : ∃ b, v = .bool b := by
  obtain ⟨n, h1, _⟩ := DataW.trod_bool ht h
  simp only [List.cons.injEq, and_true] at h1
  exact ⟨n, h1⟩
theorem leaf_string {t : TypeId} {m : Nat} {v : Value} {y : DataW H × List MemPlace} (ht : P.underlying t = some .string) (h : DataW.trod enc P w base spare held m t [v] = some y) : ∃ s : ByteArray, v = .string s ∧ s.size ≤ maxLen := by
  obtain ⟨n, h1, _, h2⟩ := DataW.trod_string ht h
  simp only [List.cons.injEq, and_true] at h1
  exact ⟨n, h1, h2⟩
/-- An array of two whole numbers, by value. -/
theorem open_pair {r : Reach} {b0 : Nat} {t e : TypeId} {k : IntKind} {v : Value} {d : DataW H} {p : List MemPlace} (ht : P.underlying t = some (.array 2 e)) (he : P.underlying e = some (.int k)) (hc : P.cellsOf e = 1) (hC : P.cellsOf t = 2)
    (hv : Value.okWide P w r b0 t v) (h : DataW.Trod enc P w base spare held t v d p) : ∃ x y : Int, v = .agg #[.int k x, .int k y] ∧ (Lit.int k x).wf = true ∧ (Lit.int k y).wf = true := by
  obtain ⟨cs, rfl, hsz, _⟩ : ∃ cs, v = .agg cs ∧ cs.size = P.cellsOf t ∧ Row.okWide P w r b0 t cs := by simpa [Value.okWide, ht] using hv
  rw [hC] at hsz
  obtain ⟨l⟩ := cs
  match l, hsz with
  | [c0, c1], _ =>
    obtain ⟨fuel, hf⟩ := h
    obtain ⟨xs, m, _, _, _, hl, hel⟩ := DataW.trod_array ht hf
    match xs, hl with
    | [y0, y1], _ =>
      have g0 := hel 0 (by decide)
      have g1 := hel 1 (by decide)
      simp [Value.cells, hc] at g0 g1
      obtain ⟨n0, e0, _, f0⟩ := DataW.trod_int he g0
      obtain ⟨n1, e1, _, f1⟩ := DataW.trod_int he g1
      simp at e0 e1
      subst e0 e1
      exact ⟨n0, n1, rfl, f0, f1⟩
/-- A row of things, one for each index. -/
theorem rows_list {α : Type} [Inhabited α] {n : Nat} {p : Nat → α → Prop} (h : ∀ i, i < n → ∃ x, p i x) : ∃ l : List α, l.length = n ∧ ∀ i (hi : i < l.length), p i l[i] := by
  obtain ⟨f, hf⟩ := choose_lt h
  refine ⟨(List.range n).map f, by simp, fun i hi => ?_⟩
  simp at hi
  simp [hf i hi]
end
end Go.Proofs.Ytdekdcleeignoaa.Op
