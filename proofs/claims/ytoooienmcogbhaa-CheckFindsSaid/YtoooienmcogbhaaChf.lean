/-
  What bits that are turned in some bytes do to their sum: plain laws, no program in sight; no condition.
-/
import Derived.Test.YtoooienmcogbhaaChk
set_option linter.unusedVariables false
namespace Go.Proofs.Ytoooienmcogbhaa.Chk

theorem bitsOf_get (m : List Nat) : ∀ q, (bitsOf m)[q]? = m[q / 8]?.map (fun x => x.testBit (q % 8)) := by
  induction m with
  | nil => intro q; simp [bitsOf]
  | cons x m ih =>
    intro q
    rw [bitsOf_cons, List.getElem?_append, byteBits_len]
    by_cases h : q < 8
    · rw [if_pos h, show q / 8 = 0 from by omega, show q % 8 = q from by omega]
      simp [byteBits, h]
    · rw [if_neg h, ih, show q / 8 = (q - 8) / 8 + 1 from by omega, show (q - 8) % 8 = q % 8 from by omega]
      simp
/-- One bit turned. -/
def flip (m : List Nat) (p : Nat) : List Nat := m.set (p / 8) ((m.getD (p / 8) 0) ^^^ 2 ^ (p % 8))
theorem flip_len (m : List Nat) (p : Nat) : (flip m p).length = m.length := by simp [flip]
theorem flip_lt (m : List Nat) (p : Nat) (h : ∀ x ∈ m, x < 256) : ∀ x ∈ flip m p, x < 256 := by
  intro x hx
  rcases List.mem_or_eq_of_mem_set hx with h1 | h1
  · exact h x h1
  · rw [h1]
    refine Nat.xor_lt_two_pow (n := 8) ?_ ?_
    · rw [List.getD_eq_getElem?_getD]
      by_cases hp : p / 8 < m.length
      · rw [List.getElem?_eq_getElem hp]; exact h _ (List.getElem_mem hp)
      · rw [List.getElem?_eq_none (by omega)]; decide
    · exact Nat.pow_lt_pow_right (by omega) (by omega)
theorem flip_get (m : List Nat) (p q : Nat) (hp : p < 8 * m.length) : (bitsOf (flip m p))[q]? = (bitsOf m)[q]?.map (fun b => xor b (decide (p = q))) := by
  rw [bitsOf_get, bitsOf_get]
  unfold flip
  rw [List.getElem?_set]
  by_cases h8 : p / 8 = q / 8
  · rw [if_pos h8, if_pos (by omega)]
    have hq : q / 8 < m.length := by omega
    rw [List.getD_eq_getElem?_getD, h8, List.getElem?_eq_getElem hq]
    simp only [Option.getD_some, Option.map_some]
    congr 1
    rw [Nat.testBit_xor, Nat.testBit_two_pow]
    congr 1
    by_cases hpq : p = q
    · subst hpq; simp
    · rw [decide_eq_false hpq, decide_eq_false (by omega)]
  · rw [if_neg h8]
    have : p ≠ q := fun e => h8 (by rw [e])
    rw [decide_eq_false this]
    cases m[q / 8]? <;> simp
/-- The first j bits of a burst, from place i on. -/
def burst (m : List Nat) (i d : Nat) : Nat → List Nat
  | 0 => m
  | j + 1 => if d.testBit j then flip (burst m i d j) (i + j) else burst m i d j
theorem burst_len (m : List Nat) (i d j : Nat) : (burst m i d j).length = m.length := by
  induction j with
  | zero => rfl
  | succ j ih => unfold burst; split <;> simp [flip_len, ih]
theorem burst_lt (m : List Nat) (i d j : Nat) (h : ∀ x ∈ m, x < 256) : ∀ x ∈ burst m i d j, x < 256 := by
  induction j with
  | zero => exact h
  | succ j ih =>
    unfold burst
    split
    · exact flip_lt _ _ ih
    · exact ih
theorem burst_get (m : List Nat) (i d : Nat) (q : Nat) : ∀ j, i + j ≤ 8 * m.length → (bitsOf (burst m i d j))[q]? = (bitsOf m)[q]?.map (fun b => xor b (decide (i ≤ q ∧ q < i + j) && d.testBit (q - i))) := by
  intro j
  induction j with
  | zero =>
    intro _
    rw [show burst m i d 0 = m from rfl, decide_eq_false (by omega)]
    cases (bitsOf m)[q]? <;> simp
  | succ j ih =>
    intro hj
    have ih := ih (by omega)
    unfold burst
    split
    · rename_i ht
      rw [flip_get _ _ _ (by rw [burst_len]; omega), ih]
      cases (bitsOf m)[q]? with
      | none => rfl
      | some b =>
        simp only [Option.map_some]
        congr 1
        by_cases hq : i + j = q
        · subst hq
          rw [decide_eq_true rfl, decide_eq_false (by omega), decide_eq_true (by omega), show i + j - i = j from by omega, ht]; simp
        · rw [decide_eq_false hq]
          by_cases h2 : i ≤ q ∧ q < i + j
          · rw [decide_eq_true h2, decide_eq_true (by omega)]; simp
          · rw [decide_eq_false h2, decide_eq_false (by omega)]; simp
    · rename_i ht
      rw [ih]
      cases (bitsOf m)[q]? with
      | none => rfl
      | some b =>
        simp only [Option.map_some]
        congr 2
        by_cases hq : i + j = q
        · subst hq
          rw [decide_eq_false (by omega), show i + j - i = j from by omega]
          simp only [Bool.not_eq_true] at ht
          rw [ht]; simp
        · by_cases h2 : i ≤ q ∧ q < i + j
          · rw [decide_eq_true h2, decide_eq_true (by omega)]
          · rw [decide_eq_false h2, decide_eq_false (by omega)]
theorem val_bits (n : Nat) : ∀ d : Nat, val ((List.range n).map d.testBit) = d % 2 ^ n := by
  induction n with
  | zero => intro d; simp [val, Nat.mod_one]
  | succ n ih =>
    intro d
    rw [List.range_succ_eq_map, List.map_cons, List.map_map]
    have e : (d.testBit ∘ Nat.succ) = (d / 2).testBit := by
      funext k
      show d.testBit (k + 1) = _
      rw [Nat.testBit_succ]
    rw [e]
    simp only [val]
    rw [ih, Nat.testBit_zero, Nat.pow_succ]
    have h1 : d / 2 % 2 ^ n = d % (2 ^ n * 2) / 2 := by rw [Nat.mul_comm, Nat.mod_mul_right_div_self]
    have h2 : d % (2 ^ n * 2) % 2 = d % 2 := Nat.mod_mul_left_mod _ _ _
    have h3 := Nat.div_add_mod (d % (2 ^ n * 2)) 2
    rw [h1]
    by_cases h : d % 2 = 1
    · rw [decide_eq_true h]; simp; omega
    · rw [decide_eq_false h]; simp; omega
/-- A burst of up to thirty-two bits changes the sum. -/
theorem burst_crc (m : List Nat) (i d : Nat) (hi : i + 32 ≤ 8 * m.length) (h0 : 0 < d) (h1 : d < 2 ^ 32) : crc (burst m i d 32) ≠ crc m := by
  intro h
  have hF : F (~~~0#32) (burst m i d 32) = F (~~~0#32) m := by
    have := congrArg (fun x => ~~~x) h
    simpa [crc] using this
  have hl : (bitsOf (burst m i d 32)).length = (bitsOf m).length := by rw [bitsOf_len, bitsOf_len, burst_len]
  have hz := B_lin (bitsOf (burst m i d 32)) (bitsOf m) (~~~0#32) (~~~0#32) hl
  have hd : List.zipWith xor (bitsOf (burst m i d 32)) (bitsOf m) = List.replicate i false ++ ((List.range 32).map d.testBit ++ List.replicate (8 * m.length - i - 32) false) := by
    apply List.ext_getElem?
    intro q
    rw [List.getElem?_zipWith, burst_get m i d q 32 hi]
    by_cases hq : q < 8 * m.length
    · have hb : q < (bitsOf m).length := by rw [bitsOf_len]; exact hq
      rw [List.getElem?_eq_getElem hb]
      simp only [Option.map_some]
      generalize (bitsOf m)[q] = b
      have hx : xor (xor b (decide (i ≤ q ∧ q < i + 32) && d.testBit (q - i))) b = (decide (i ≤ q ∧ q < i + 32) && d.testBit (q - i)) := by
        cases b <;> cases (decide (i ≤ q ∧ q < i + 32) && d.testBit (q - i)) <;> rfl
      rw [hx]
      by_cases h1 : q < i
      · rw [decide_eq_false (by omega), List.getElem?_append_left (by simpa using h1)]
        simp [h1]
      · rw [List.getElem?_append_right (by simp; omega), List.length_replicate]
        by_cases h2 : q < i + 32
        · rw [decide_eq_true (by omega), List.getElem?_append_left (by simp; omega)]
          simp [show q - i < 32 from by omega]
        · rw [decide_eq_false (by omega), List.getElem?_append_right (by simp; omega), List.getElem?_replicate, if_pos (by simp; omega)]
          simp
    · rw [List.getElem?_eq_none (l := bitsOf m) (by rw [bitsOf_len]; omega)]
      rw [List.getElem?_eq_none (by simp; omega)]
      simp
  have hF2 : B (~~~0#32) (bitsOf (burst m i d 32)) ^^^ B (~~~0#32) (bitsOf m) = 0#32 := by
    show F _ _ ^^^ F _ _ = _
    rw [hF]; simp
  rw [hF2, hd, B_append, B_append, B_zeros, B_zeros, show (~~~0#32 ^^^ ~~~0#32 : W) = 0#32 from by decide, Tn_zero, B_val _ _ (by simp), val_bits] at hz
  have := Tn_inj _ (Tn_inj _ hz.symm)
  rw [Nat.mod_eq_of_lt h1] at this
  have h3 := congrArg BitVec.toNat this
  simp at h3
  omega
end Go.Proofs.Ytoooienmcogbhaa.Chk
