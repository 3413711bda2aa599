/-
  Symbols and bits keep what was told of the two encoders. Plain theorems; no condition but those told.
-/
import Derived.Test.YtlbjoflmfboeeaaErl
set_option linter.unusedVariables false
namespace Go.Proofs.Ytlbjoflmfboeeaa.Enc
open Go.RowKit Go.Proofs.Ytlbjoflmfboeeaa Go.Proofs.Ytlbjoflmfboeeaa.Dig

theorem fresh_rdy : fresh.Ready := fresh_rel.ready rfresh_good
theorem may_bits (n : Int) {j : Nat} (h : j ≤ 12) : May (n % 2 ^ j) 1 (2 ^ j) := by
  have h3 : (0 : Int) < 2 ^ j := Int.pow_pos (by omega)
  have h4 := Nat.pow_le_pow_right (show 0 < 2 by decide) h
  have h5 : (2 : Int) ^ j ≤ 2 ^ 12 := by exact_mod_cast h4
  have e12 : (2 : Int) ^ 12 = 4096 := by decide
  have := Int.emod_nonneg n (show (2 : Int) ^ j ≠ 0 by omega)
  have := Int.emod_lt_of_pos n h3
  exact ⟨by omega, by omega, by omega, by omega⟩
theorem may_bits12 (n : Int) : May (n % 4096) 1 4096 := by refine ⟨?_, ?_, ?_, ?_⟩ <;> omega
theorem bitsS_ready {s : St} (ok : s.Ready) (n : Int) (w : Nat) (hw : w ≤ 24) : (bitsS s n w).Ready ∧ s.k ≤ (bitsS s n w).k ∧ (bitsS s n w).k ≤ s.k + 4 := by
  unfold bitsS
  split
  · exact ⟨ok, Nat.le_refl _, Nat.le_add_right _ _⟩
  · split
    · rename_i h0 h1
      obtain ⟨r1, r2, r3⟩ := put_ready ok (may_bits n h1)
      exact ⟨r1, r2, Nat.le_trans r3 (by omega)⟩
    · rename_i h0 h1
      obtain ⟨r1, r2, r3⟩ := put_ready ok (may_bits12 (n / 2 ^ (w - 12)))
      obtain ⟨q1, q2, q3⟩ := put_ready r1 (may_bits n (show w - 12 ≤ 12 by omega))
      exact ⟨q1, Nat.le_trans r2 q2, Nat.le_trans q3 (by omega)⟩
theorem rbitsS_good {R : RSt} (ok : RGood R) (n : Int) (w : Nat) (hw : w ≤ 24) : RGood (rbitsS R n w) ∧ R.K ≤ (rbitsS R n w).K ∧ (rbitsS R n w).K ≤ R.K + 4 := by
  unfold rbitsS
  split
  · exact ⟨ok, Nat.le_refl _, Nat.le_add_right _ _⟩
  · split
    · rename_i h0 h1
      obtain ⟨r1, r2, r3⟩ := rput_good ok (may_bits n h1)
      exact ⟨r1, r2, Nat.le_trans r3 (by omega)⟩
    · rename_i h0 h1
      obtain ⟨r1, r2, r3⟩ := rput_good ok (may_bits12 (n / 2 ^ (w - 12)))
      obtain ⟨q1, q2, q3⟩ := rput_good r1 (may_bits n (show w - 12 ≤ 12 by omega))
      exact ⟨q1, Nat.le_trans r2 q2, Nat.le_trans q3 (by omega)⟩
theorem bitsS_rel {s : St} {R : RSt} (h : Rel s R) (g : RGood R) (n : Int) (w : Nat) (hw : w ≤ 24) : Rel (bitsS s n w) (rbitsS R n w) := by
  unfold bitsS rbitsS
  split
  · exact h
  · split
    · rename_i h0 h1
      exact put_rel h g (may_bits n h1)
    · rename_i h0 h1
      exact put_rel (put_rel h g (may_bits12 (n / 2 ^ (w - 12)))) (rput_good g (may_bits12 (n / 2 ^ (w - 12)))).1 (may_bits n (show w - 12 ≤ 12 by omega))
theorem symS_ready {s : St} (ok : s.Ready) {L : List Int} (good : Mdl.Good L) {k : Nat} (hk : k < L.length) : (symS s L k).Ready ∧ s.k ≤ (symS s L k).k ∧ (symS s L k).k ≤ s.k + 2 := put_ready ok (may_of good k hk)
theorem rsymS_good {R : RSt} (ok : RGood R) {L : List Int} (good : Mdl.Good L) {k : Nat} (hk : k < L.length) : RGood (rsymS R L k) ∧ R.K ≤ (rsymS R L k).K ∧ (rsymS R L k).K ≤ R.K + 2 := rput_good ok (may_of good k hk)
theorem symS_rel {s : St} {R : RSt} (h : Rel s R) (g : RGood R) {L : List Int} (good : Mdl.Good L) {k : Nat} (hk : k < L.length) : Rel (symS s L k) (rsymS R L k) := put_rel h g (may_of good k hk)
theorem strip_sub (l : List Int) : (∀ x ∈ strip l, x ∈ l) ∧ (strip l).length ≤ l.length := by
  unfold strip
  have h : l.reverse.dropWhile (fun x => x == 0) <:+ l.reverse := List.dropWhile_suffix _
  refine ⟨fun x hx => ?_, ?_⟩
  · rw [List.mem_reverse] at hx
    have := h.subset hx
    rwa [List.mem_reverse] at this
  · rw [List.length_reverse]
    have := h.length_le
    rwa [List.length_reverse] at this
theorem strip_pre (l : List Int) : ∃ n, l = strip l ++ List.replicate n 0 := by
  unfold strip
  refine ⟨(l.reverse.takeWhile (fun x => x == 0)).length, ?_⟩
  have h := List.takeWhile_append_dropWhile (p := fun x : Int => x == 0) (l := l.reverse)
  have h2 := congrArg List.reverse h
  rw [List.reverse_append, List.reverse_reverse] at h2
  have h3 : (l.reverse.takeWhile (fun x => x == 0)).reverse = List.replicate (l.reverse.takeWhile (fun x => x == 0)).length 0 := by
    rw [List.eq_replicate_iff]
    refine ⟨by simp, fun x hx => ?_⟩
    rw [List.mem_reverse] at hx
    have key : ∀ (l : List Int), x ∈ l.takeWhile (fun x => x == 0) → x = 0 := by
      intro l
      induction l with
      | nil => intro h; cases h
      | cons a l ih =>
        intro h
        rw [List.takeWhile_cons] at h
        by_cases ha : a = 0
        · subst ha
          rcases List.mem_cons.1 (by simpa using h) with h | h
          · exact h
          · exact ih h
        · simp [ha] at h
    exact key _ hx
  rw [h3] at h2
  exact h2.symm
/-- The bytes are bytes, and not many. -/
theorem bytes_byt {s : St} {R : RSt} (h : Rel s R) (g : RGood R) : (∀ x ∈ bytesS s, 0 ≤ x ∧ x ≤ 255) ∧ (bytesS s).length ≤ s.k + 4 := by
  rw [bytes_rel h g]
  have h2 := strip_sub R.D
  refine ⟨fun x hx => g.dig x (h2.1 x hx), ?_⟩
  have := h2.2
  rw [g.len] at this
  rw [h.k]; exact this
end Go.Proofs.Ytlbjoflmfboeeaa.Enc
