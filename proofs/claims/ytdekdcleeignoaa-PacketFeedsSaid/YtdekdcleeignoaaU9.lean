/-
  Words: a copy inside a row; slices of bools that come in. Plain theorems; no condition.
-/
import Derived.Test.YtdekdcleeignoaaU7
import Derived.Test.YtdekdcleeignoaaOp
import Derived.Test.YtdekdcleeignoaaProg
import Derived.Laws.CopyOwn
set_option linter.unusedVariables false
set_option linter.unusedSimpArgs false
namespace Go.Proofs.Ytdekdcleeignoaa
open Go.RowKit

theorem RowI.whole {w : World} {e : TypeId} {k : IntKind} {g : Nat} {xs : List Int} (h : RowI w e k g xs.length xs) : Blk w g e (xs.map (Value.int k)).toArray := by
  obtain ⟨cs, hb, _, _, h3, hc⟩ := h
  have : cs = (xs.map (Value.int k)).toArray := by
    apply Array.ext
    · simpa using h3
    · intro i h1 h2
      have := hc i (by omega)
      rw [Array.getElem?_eq_getElem h1] at this
      injection this with this
      simpa using this
  rw [← this]
  exact hb
theorem RowI.of_whole {w : World} {e : TypeId} {k : IntKind} {g : Nat} {xs : List Int} (h : Blk w g e (xs.map (Value.int k)).toArray) (hm : xs.length ≤ maxLen) : RowI w e k g xs.length xs :=
  ⟨_, h, Nat.le_refl _, hm, by simp, fun i hi => by simp [hi]⟩
theorem wpList_copyR {P : Program} {w : World} {ops : Array Oper} {rest : List Oper} {o : Oper} {a : Act} {Q : Exit → Act → World → Prop} (hgd : o.guard = none) (d s : Operand) (dT sT : TypeId)
    (ho : o.op = .call { callee := .builtin .copy, args := #[d, s], argTypes := #[dT, sT] }) (e : TypeId) (hu : P.underlying dT = some (.slice e)) (hsz : (P.info? e).map (·.size) = some 1)
    {k : IntKind} (g off dLen dCap : Nat) (ad : Addr) (sLen sCap : Nat) (hd : a.eval d = .slice (some ⟨g, off, none⟩) dLen dCap) (hs : a.eval s = .slice (some ad) sLen sCap)
    (xs ys : List Int) (hr : RowI w e k g xs.length xs) (hn : ys.length = Nat.min sLen dLen)
    (hsrc : ∀ j (h : j < ys.length), w.cell? (ad.add j) = some (.int k ys[j])) (hfit : off + ys.length ≤ xs.length)
    (h : ∀ w', RowI w' e k g xs.length (splice xs off ys) → Only (fun i => i = g) w w' → wpList P ops Q rest (a.put o.dst (goInt ys.length)) w') : wpList P ops Q (o :: rest) a w := by
  have hw := hr.whole
  have hlen := hr.len
  refine wpList_copy_own hgd d s dT sT ho e hu hsz g off dLen dCap ad sLen sCap hd hs (xs.map (Value.int k)).toArray e (by exact hw) (ys.map (Value.int k)) (by simpa using hn) (fun j v hj => ?_) (by simpa using hfit) (fun v hv => ?_) ?_
  · rw [List.getElem?_map] at hj
    have hjl : j < ys.length := by
      rcases Nat.lt_or_ge j ys.length with h1 | h1
      · exact h1
      · rw [List.getElem?_eq_none h1] at hj; cases hj
    rw [List.getElem?_eq_getElem hjl] at hj
    injection hj with hj
    rw [hsrc j hjl, hj]
  · obtain ⟨z, _, rfl⟩ := List.mem_map.1 hv; rfl
  · rw [List.length_map]
    refine h _ ?_ (Only.row (S := fun i => i = g) (Only.refl _ w) (g := g) (.inl rfl) _)
    have hb := hw.row ((xs.map (Value.int k)).toArray.toList.take off ++ (ys.map (Value.int k) ++ (xs.map (Value.int k)).toArray.toList.drop (off + ys.length))).toArray
    have e1 : (xs.map (Value.int k)).toArray.toList.take off ++ (ys.map (Value.int k) ++ (xs.map (Value.int k)).toArray.toList.drop (off + ys.length)) = (splice xs off ys).map (Value.int k) := by
      unfold splice
      simp
    rw [e1] at hb ⊢
    have el := length_splice xs off ys hfit
    have := RowI.of_whole hb (by rw [el]; exact hlen.2)
    rw [el] at this
    exact this
/-- A slice of bools as it comes in. -/
def Bools (w : World) (A : Option Addr) (len cap : Nat) (z : List Bool) : Prop :=
  (A = none ∧ len = 0 ∧ cap = 0 ∧ z = []) ∨ ∃ x, A = some x ∧ len ≤ cap ∧ cap ≤ maxLen ∧ z.length = len ∧ ∀ i (h : i < z.length), w.cell? (x.add i) = some (.bool z[i])
theorem Bools.len {w : World} {A : Option Addr} {len cap : Nat} {z : List Bool} (h : Bools w A len cap z) : z.length = len := by
  rcases h with ⟨_, rfl, _, rfl⟩ | ⟨x, _, _, _, h, _⟩
  · rfl
  · exact h
theorem Bools.at {w w' : World} {A : Option Addr} {len cap : Nat} {z : List Bool} (h : Bools w A len cap z) (b : Below w.heap.size w w') {i : Nat} (hi : i < len) : ∃ x, A = some x ∧ w'.cell? (x.add i) = some (.bool (z.getD i false)) := by
  rcases h with ⟨_, rfl, _, rfl⟩ | ⟨x, rfl, _, _, h, hc⟩
  · omega
  · have h1 := hc i (by omega)
    refine ⟨x, rfl, ?_⟩
    have hlt := World.block_lt_of_cell? _ _ h1
    rw [Below.cell b hlt, h1, List.getD_eq_getElem?_getD, List.getElem?_eq_getElem (by omega)]
    rfl
-- BOOLS
end Go.Proofs.Ytdekdcleeignoaa
