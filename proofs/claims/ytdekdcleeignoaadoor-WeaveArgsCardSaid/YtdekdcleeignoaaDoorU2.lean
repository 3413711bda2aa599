/-
  Words: rows filled place by place, arrays of whole numbers, numbers that keep their size. Plain theorems; no condition.
-/
import Derived.Test.YtdekdcleeignoaaDoorU1
set_option linter.unusedVariables false
namespace Go.Proofs.YtdekdcleeignoaaDoor
open Go.RowKit Go.Proofs.YtdekdcleeignoaaDoorW.PrintWords

theorem wrapI64 {x : Int} (h0 : -9223372036854775808 ≤ x) (h1 : x < 9223372036854775808) : IntKind.i64.wrap x = x := by
  unfold IntKind.wrap
  simp only [IntKind.bits, IntKind.signed]
  simp
  split <;> omega
/-- The first j of n places filled. -/
def fillTo (f : Nat → Int) (n j : Nat) : List Int := (List.range n).map (fun i => if i < j then f i else 0)
theorem fillTo_len (f : Nat → Int) (n j : Nat) : (fillTo f n j).length = n := by simp [fillTo]
theorem fillTo_zero (f : Nat → Int) (n : Nat) : fillTo f n 0 = List.replicate n 0 := by
  apply List.ext_getElem <;> simp [fillTo]
theorem fillTo_set (f : Nat → Int) (n j : Nat) : (fillTo f n j).set j (f j) = fillTo f n (j + 1) := by
  apply List.ext_getElem
  · simp [fillTo]
  · intro i h1 h2
    rw [List.getElem_set]
    simp [fillTo] at h1 h2 ⊢
    by_cases hij : j = i
    · subst hij; simp
    · rw [if_neg hij]
      by_cases h3 : i < j
      · rw [if_pos h3, if_pos (by omega)]
      · rw [if_neg h3, if_neg (by omega)]
theorem fillTo_skip (f : Nat → Int) (n j : Nat) (h : f j = 0) : fillTo f n j = fillTo f n (j + 1) := by
  rw [← fillTo_set, h]
  apply List.ext_getElem
  · simp [fillTo]
  · intro i h1 h2
    rw [List.getElem_set]
    by_cases hij : j = i
    · subst hij; simp [fillTo]
    · rw [if_neg hij]
theorem fillTo_at (f : Nat → Int) (n j : Nat) (h : j < (fillTo f n j).length) : (fillTo f n j)[j] = 0 := by simp [fillTo]
theorem fillTo_all (f : Nat → Int) (n : Nat) : fillTo f n n = (List.range n).map f := by
  apply List.ext_getElem
  · simp [fillTo]
  · intro i h1 h2
    simp [fillTo] at h1 ⊢
    intro h; omega
theorem fillTo_all' (f : Nat → Int) (n i : Nat) (h : i < n) {h' : i < (fillTo f n n).length} : (fillTo f n n)[i] = f i := by simp [fillTo, h]
theorem RowI.new2 (w : World) (o : Obj) (e : TypeId) (k : IntKind) (n : Nat) (v : Int) (hn : n ≤ maxLen) : RowI ((w.alloc o).alloc (.cells (madeCells #[.int k v] n) e)) e k (w.heap.size + 1) n (List.replicate n v) := by
  have := RowI.new (w.alloc o) e k n v hn
  have hs : (w.alloc o).heap.size = w.heap.size + 1 := by simp
  rwa [hs] at this
/-- An array's cells. -/
def vals (k : IntKind) (xs : List Int) : Array Value := (xs.map (Value.int k)).toArray
theorem vals_get {k : IntKind} {xs : List Int} {i : Nat} (h : i < xs.length) : (vals k xs)[i]? = some (.int k xs[i]) := by simp [vals, h]
theorem vals_set (k : IntKind) (xs : List Int) (i : Nat) (v : Int) : (vals k xs).setIfInBounds i (.int k v) = vals k (xs.set i v) := by
  simp [vals, List.setIfInBounds_toArray, List.map_set]
theorem vals_size (k : IntKind) (xs : List Int) : (vals k xs).size = xs.length := by simp [vals]
theorem Blk.seti {w : World} {g : Nat} {t : TypeId} {k : IntKind} {xs : List Int} (h : Blk w g t (vals k xs)) (i : Nat) (v : Int) : Blk (w.setCell ⟨g, i, none⟩ (.int k v)) g t (vals k (xs.set i v)) := by
  have := h.set i (.int k v)
  rwa [vals_set] at this
theorem add_block (a : Addr) (n : Nat) : (a.add n).block = a.block := by unfold Addr.add; split <;> rfl
theorem C_of_cells {k : IntKind} {w : World} {g : Nat} {xs : List Int} (hl : xs.length ≤ maxLen) (h : ∀ i (hi : i < xs.length), w.cell? ⟨g, i, none⟩ = some (.int k xs[i])) : (Kd.int k).C w (some ⟨g, 0, none⟩) xs.length xs := by
  refine Kd.C_of_reads (d := (0 : Int)) (h1 := fun _ => rfl) ⟨rfl, hl, fun _ => ⟨⟨g, 0, none⟩, rfl, fun j hj => ?_⟩⟩
  have := h j hj
  rw [show (Addr.add ⟨g, 0, none⟩ j) = ⟨g, j, none⟩ from by unfold Addr.add; split <;> simp_all, this]
  simp [hj]
theorem drawn_below {w w' : World} (h : Drawn0 w w') : Below w.heap.size w w' := by
  obtain ⟨⟨n, rfl⟩⟩ := h
  exact pw_below_drewN (Below.refl _ _) n
end Go.Proofs.YtdekdcleeignoaaDoor
