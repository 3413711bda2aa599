/-
  Packets found in bytes, piece by piece; plain. No program in sight; no condition but those told.
-/
import Derived.Test.YtdekdcleeignoaaPkp
set_option linter.unusedVariables false
namespace Go.Proofs.Ytdekdcleeignoaa.Pk

theorem getD_app {b more : List Int} {i : Nat} (h : i < b.length) : (b ++ more).getD i 0 = b.getD i 0 := by
  rw [List.getD_eq_getElem?_getD, List.getElem?_append_left h, ← List.getD_eq_getElem?_getD]
theorem cut_more {b more : List Int} {i j : Nat} (h : j ≤ b.length) : cut (b ++ more) i j = cut b i j := by
  unfold cut
  rw [List.take_append_of_le_length h]
theorem odd_more {b : List Int} (more : List Int) (h : odd b = true) : odd (b ++ more) = true := by
  unfold odd at *
  simp only [Bool.or_eq_true, Bool.and_eq_true, decide_eq_true_eq, List.length_append] at *
  rcases h with (⟨h1, h2⟩ | ⟨h1, h2⟩) | ⟨h1, h2⟩
  · exact .inl (.inl ⟨by omega, by rw [getD_app h1]; exact h2⟩)
  · exact .inl (.inr ⟨by omega, by rw [getD_app h1]; exact h2⟩)
  · exact .inr ⟨by omega, by rw [getD_app h1]; exact h2⟩
theorem odd_same {b : List Int} (more : List Int) (h : 3 ≤ b.length) : odd (b ++ more) = odd b := by
  unfold odd
  rw [getD_app (by omega), getD_app (by omega), getD_app (by omega)]
  rw [decide_eq_true (show 0 < (b ++ more).length by simp; omega), decide_eq_true (show 1 < (b ++ more).length by simp; omega), decide_eq_true (show 2 < (b ++ more).length by simp; omega), decide_eq_true (show 0 < b.length by omega), decide_eq_true (show 1 < b.length by omega), decide_eq_true (show 2 < b.length by omega)]
/-- What is told of bytes that are enough stays, whatever stands behind them. -/
theorem parse_more {b : List Int} (more : List Int) (h : (parse b).2.2 ≠ 2) : parse (b ++ more) = parse b := by
  by_cases ho : odd b = true
  · unfold parse
    rw [ho, odd_more more ho]
    rfl
  have ho : odd b = false := by simpa using ho
  by_cases h13 : b.length < 13
  · unfold parse at h
    rw [ho, if_neg (by decide), if_pos h13] at h
    exact absurd rfl h
  have e1 : odd (b ++ more) = false := by rw [odd_same more (by omega), ho]
  have e2 : told (b ++ more) = told b := by unfold told; rw [cut_more (by omega)]
  have lm : (b ++ more).length = b.length + more.length := List.length_append
  by_cases h600 : 600 < told b
  · unfold parse
    rw [ho, e1, e2, lm, if_neg (by decide), if_neg (by omega), if_pos h600, if_neg (by decide), if_neg h13, if_pos h600]
  by_cases hl : b.length < 17 + told b
  · unfold parse at h
    rw [ho, if_neg (by decide), if_neg h13, if_neg h600, if_pos hl] at h
    exact absurd rfl h
  have e3 : pkt (b ++ more) = pkt b := by
    unfold pkt
    rw [e2, cut_more (by omega), cut_more (by omega), cut_more (by omega), getD_app (by omega)]
  unfold parse
  rw [ho, e1, e2, e3, lm, cut_more (by omega), cut_more (by omega)]
  rw [if_neg (show ¬ (b.length + more.length < 13) by omega), if_neg (show ¬ (b.length + more.length < 17 + told b) by omega), if_neg h13, if_neg hl]
/-- How far what is told goes. -/
theorem parse_some {b : List Int} {p : P} {n : Nat} {e : Int} (h : parse b = (some p, n, e)) : 17 ≤ n ∧ n ≤ b.length ∧ e = 0 := by
  unfold parse at h
  split at h
  · simp at h
  · split at h
    · simp at h
    · split at h
      · simp at h
      · split at h
        · simp at h
        · split at h
          · simp at h
          · simp only [Prod.mk.injEq, Option.some.injEq] at h
            omega
theorem parse_none {b : List Int} {n : Nat} {e : Int} (h : parse b = (none, n, e)) : n = 0 ∧ e ≠ 0 ∧ (e = 2 → b.length ≤ 616) := by
  unfold parse at h
  split at h
  · simp at h; omega
  · split at h
    · simp at h; omega
    · split at h
      · simp at h; omega
      · split at h
        · simp at h; omega
        · split at h
          · simp at h; omega
          · simp at h
/-- The packets in bytes, how many bytes are passed over, and those left; so many steps at most. -/
def run : Nat → List Int → List P × Nat × List Int
  | 0, b => ([], 0, b)
  | f + 1, b => if b = [] then ([], 0, []) else match parse b with
    | (some p, n, _) => (p :: (run f (b.drop n)).1, (run f (b.drop n)).2.1, (run f (b.drop n)).2.2)
    | (none, _, e) => if e = 2 then ([], 0, b) else ((run f (b.drop 1)).1, (run f (b.drop 1)).2.1 + 1, (run f (b.drop 1)).2.2)
theorem run_enough : ∀ (f g : Nat) (b : List Int), b.length ≤ f → b.length ≤ g → run f b = run g b
  | 0, g, b, h, _ => by
    obtain rfl := List.eq_nil_of_length_eq_zero (Nat.le_zero.1 h)
    cases g <;> simp [run]
  | f + 1, 0, b, _, h => by
    obtain rfl := List.eq_nil_of_length_eq_zero (Nat.le_zero.1 h)
    simp [run]
  | f + 1, g + 1, b, h1, h2 => by
    unfold run
    split
    · rfl
    · rename_i hb
      have h0 : 0 < b.length := List.length_pos_iff.2 hb
      split
      · rename_i p n e he
        have := parse_some he
        rw [run_enough f g (b.drop n) (by rw [List.length_drop]; omega) (by rw [List.length_drop]; omega)]
      · split
        · rfl
        · rw [run_enough f g (b.drop 1) (by rw [List.length_drop]; omega) (by rw [List.length_drop]; omega)]
def all (b : List Int) : List P × Nat × List Int := run b.length b
theorem all_nil : all [] = ([], 0, []) := rfl
theorem all_some {b : List Int} {p : P} {n : Nat} {e : Int} (h : parse b = (some p, n, e)) : all b = (p :: (all (b.drop n)).1, (all (b.drop n)).2.1, (all (b.drop n)).2.2) := by
  have hs := parse_some h
  have hb : b ≠ [] := by rintro rfl; simp at hs; omega
  obtain ⟨m, hm⟩ : ∃ m, b.length = m + 1 := ⟨b.length - 1, by omega⟩
  unfold all
  rw [hm]
  conv => lhs; unfold run
  rw [if_neg hb, h]
  simp only
  rw [run_enough m (b.drop n).length (b.drop n) (by rw [List.length_drop]; omega) (Nat.le_refl _)]
theorem all_cut {b : List Int} {n : Nat} (hb : b ≠ []) (h : parse b = (none, n, 2)) : all b = ([], 0, b) := by
  have := List.length_pos_iff.2 hb
  obtain ⟨m, hm⟩ : ∃ m, b.length = m + 1 := ⟨b.length - 1, by omega⟩
  unfold all
  rw [hm]
  unfold run
  rw [if_neg hb, h]
  rfl
theorem all_lost {b : List Int} {n : Nat} {e : Int} (hb : b ≠ []) (h : parse b = (none, n, e)) (he : e ≠ 2) : all b = ((all (b.drop 1)).1, (all (b.drop 1)).2.1 + 1, (all (b.drop 1)).2.2) := by
  have := List.length_pos_iff.2 hb
  obtain ⟨m, hm⟩ : ∃ m, b.length = m + 1 := ⟨b.length - 1, by omega⟩
  unfold all
  rw [hm]
  conv => lhs; unfold run
  rw [if_neg hb, h]
  simp only
  rw [if_neg he, run_enough m (b.drop 1).length (b.drop 1) (by rw [List.length_drop]; omega) (Nat.le_refl _)]
/-- Piece by piece is as all at once. -/
theorem all_app : ∀ (n : Nat) (b c : List Int), b.length ≤ n → all (b ++ c) = ((all b).1 ++ (all ((all b).2.2 ++ c)).1, (all b).2.1 + (all ((all b).2.2 ++ c)).2.1, (all ((all b).2.2 ++ c)).2.2)
  | n, [], c, _ => by rw [all_nil]; simp
  | 0, x :: b, c, h => by simp at h
  | n + 1, x :: b, c, h => by
    have hb : x :: b ≠ [] := by simp
    have hl : (x :: b).length ≤ n + 1 := h
    generalize x :: b = B at hb hl
    rcases hp : parse B with ⟨o, k, e⟩
    cases o with
    | some p =>
      have hs := parse_some hp
      have hp2 : parse (B ++ c) = (some p, k, e) := by rw [parse_more c (by rw [hp]; simp only; omega), hp]
      rw [all_some hp, all_some hp2, List.drop_append_of_le_length hs.2.1, all_app n (B.drop k) c (by rw [List.length_drop]; omega)]
      simp
    | none =>
      have hn := parse_none hp
      by_cases he : e = 2
      · subst he
        rw [all_cut hb hp]
        simp
      · have hp2 : parse (B ++ c) = (none, k, e) := by rw [parse_more c (by rw [hp]; exact he), hp]
        have h0 := List.length_pos_iff.2 hb
        rw [all_lost hb hp he, all_lost (by simp [hb]) hp2 he, List.drop_append_of_le_length (by omega), all_app n (B.drop 1) c (by rw [List.length_drop]; omega)]
        simp
        omega
theorem all_left : ∀ (n : Nat) (b : List Int), b.length ≤ n → (all b).2.2.length ≤ 616
  | n, [], _ => by rw [all_nil]; simp
  | 0, x :: b, h => by simp at h
  | n + 1, x :: b, h => by
    have hb : x :: b ≠ [] := by simp
    have hl : (x :: b).length ≤ n + 1 := h
    generalize x :: b = B at hb hl
    rcases hp : parse B with ⟨o, k, e⟩
    cases o with
    | some p =>
      have hs := parse_some hp
      rw [all_some hp]
      exact all_left n (B.drop k) (by rw [List.length_drop]; omega)
    | none =>
      have hn := parse_none hp
      by_cases he : e = 2
      · subst he
        rw [all_cut hb hp]
        exact hn.2.2 rfl
      · rw [all_lost hb hp he]
        have h0 := List.length_pos_iff.2 hb
        exact all_left n (B.drop 1) (by rw [List.length_drop]; omega)
end Go.Proofs.Ytdekdcleeignoaa.Pk
