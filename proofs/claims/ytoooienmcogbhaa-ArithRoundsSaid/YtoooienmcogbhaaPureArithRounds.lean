/-
  ArithRounds: the program and the reference divide to the nearest alike, and multiply alike, at every input; no condition.
-/
import Derived.Test.YtoooienmcogbhaaPArithRoundsx2
set_option linter.unusedVariables false
set_option linter.unusedSimpArgs false
namespace Go.Proofs.Ytoooienmcogbhaa.Pure
open Go.RowKit Go.Proofs.Ytoooienmcogbhaa.PArithRounds Go.Proofs.YtoooienmcogbhaaW.PrintWords Go.Proofs.YtoooienmcogbhaaW.PrintLast Go.Proofs.YtoooienmcogbhaaW.PrintMore

theorem w64 {x : Int} (h0 : -9223372036854775808 ≤ x) (h1 : x < 9223372036854775808) : wrap64 x = x := by unfold wrap64; omega
theorem w32 {x : Int} (h0 : -2147483648 ≤ x) (h1 : x < 2147483648) : wrap32 x = x := by unfold wrap32; omega
theorem wf_i64 {x : Int} (h : (Lit.int .i64 x).wf = true) : -9223372036854775808 ≤ x ∧ x < 9223372036854775808 := by
  simp [Lit.wf, IntKind.min, IntKind.max, IntKind.signed, IntKind.bits] at h; omega
theorem wf_i32 {x : Int} (h : (Lit.int .i32 x).wf = true) : -2147483648 ≤ x ∧ x < 2147483648 := by
  simp [Lit.wf, IntKind.min, IntKind.max, IntKind.signed, IntKind.bits] at h; omega
theorem wf_u64 {x : Int} (h : (Lit.int .u64 x).wf = true) : 0 ≤ x ∧ x < 18446744073709551616 := by
  simp [Lit.wf, IntKind.min, IntKind.max, IntKind.signed, IntKind.bits] at h; omega
theorem wf_u32 {x : Int} (h : (Lit.int .u32 x).wf = true) : 0 ≤ x ∧ x < 4294967296 := by
  simp [Lit.wf, IntKind.min, IntKind.max, IntKind.signed, IntKind.bits] at h; omega
/-- Powers of two as whole numbers: the greatest that are asked. -/
theorem pw_pos (n : Nat) : (0 : Int) < 2 ^ n := Int.pow_pos (by omega)
theorem pw_succ (n : Nat) : (2 : Int) ^ (n + 1) = 2 * 2 ^ n := by rw [Int.pow_succ]; omega
theorem pw_le {a b : Nat} (h : a ≤ b) : (2 : Int) ^ a ≤ 2 ^ b := by
  induction h with
  | refl => exact Int.le_refl _
  | step _ ih => rw [pw_succ]; have := pw_pos a; omega
theorem pw62 {n : Nat} (h : n ≤ 62) : (2 : Int) ^ n ≤ 4611686018427387904 := pw_le (a := n) (b := 62) h
theorem and_one_i64 (x : Int) : Go.bits .and .i64 x 1 = x % 2 := by
  show IntKind.i64.wrap ((BitVec.ofInt 64 x &&& BitVec.ofInt 64 1).toNat : Int) = _
  have h1 : (BitVec.ofInt 64 1).toNat = 1 := by decide
  have h2 : ((BitVec.ofInt 64 x).toNat : Int) = x % 18446744073709551616 := by
    rw [BitVec.toNat_ofInt, Int.toNat_of_nonneg (Int.emod_nonneg _ (by decide))]; rfl
  rw [BitVec.toNat_and, h1, Nat.and_one_is_mod, IntKind.wrap_i64]
  omega
/-- n divided by 2^by to the nearest, halves upwards. -/
def rnd (n : Int) (by_ : Nat) : Int := if by_ = 0 then n else n / 2 ^ by_ + n / 2 ^ (by_ - 1) % 2
theorem div_bd (n d : Int) (hd : 1 ≤ d) (h0 : -9223372036854775808 ≤ n) (h1 : n < 9223372036854775808) : -9223372036854775808 ≤ n / d ∧ n / d < 9223372036854775808 := by
  constructor
  · rw [Int.le_ediv_iff_mul_le (by omega)]
    have : (-9223372036854775808 : Int) * d ≤ -9223372036854775808 * 1 := Int.mul_le_mul_of_nonpos_left (by decide) hd
    omega
  · rw [Int.ediv_lt_iff_lt_mul (by omega)]
    have : (9223372036854775808 : Int) * 1 ≤ 9223372036854775808 * d := Int.mul_le_mul_of_nonneg_left hd (by decide)
    omega
theorem div2_bd (n d : Int) (hd : 2 ≤ d) (h0 : -9223372036854775808 ≤ n) (h1 : n < 9223372036854775808) : -4611686018427387904 ≤ n / d ∧ n / d < 4611686018427387904 := by
  constructor
  · rw [Int.le_ediv_iff_mul_le (by omega)]
    have : (-4611686018427387904 : Int) * d ≤ -4611686018427387904 * 2 := Int.mul_le_mul_of_nonpos_left (by decide) hd
    omega
  · rw [Int.ediv_lt_iff_lt_mul (by omega)]
    have : (4611686018427387904 : Int) * 2 ≤ 4611686018427387904 * d := Int.mul_le_mul_of_nonneg_left hd (by decide)
    omega
theorem rnd_bd (n : Int) (b : Nat) (h0 : -9223372036854775808 ≤ n) (h1 : n < 9223372036854775808) : -9223372036854775808 ≤ rnd n b ∧ rnd n b < 9223372036854775808 := by
  unfold rnd
  by_cases hb : b = 0
  · rw [if_pos hb]; exact ⟨h0, h1⟩
  · rw [if_neg hb]
    obtain ⟨c, rfl⟩ : ∃ c, b = c + 1 := ⟨b - 1, by omega⟩
    have := div2_bd n (2 ^ (c + 1)) (by rw [pw_succ]; have := pw_pos c; omega) h0 h1
    omega
/-- The least number of so many bits, from 1 to 64. -/
def least (w : Nat) : Int := -2 ^ (w - 1)
/-- n held to w bits; 0, if there are no such bits. -/
def sat (n w : Int) : Int := if w < 1 ∨ 64 < w then 0 else if n < least w.toNat then least w.toNat else if n > -(least w.toNat + 1) then -(least w.toNat + 1) else n
theorem least_bd {w : Nat} (h0 : 1 ≤ w) (h1 : w ≤ 64) : -9223372036854775808 ≤ least w ∧ least w ≤ -1 := by
  unfold least
  have := pw_pos (w - 1)
  have : (2 : Int) ^ (w - 1) ≤ 2 ^ 63 := pw_le (by omega)
  omega
theorem sat_bd (n w : Int) (h0 : -9223372036854775808 ≤ n) (h1 : n < 9223372036854775808) : -9223372036854775808 ≤ sat n w ∧ sat n w < 9223372036854775808 := by
  unfold sat
  by_cases h : w < 1 ∨ 64 < w
  · rw [if_pos h]; omega
  · rw [if_neg h]
    have := least_bd (w := w.toNat) (by omega) (by omega)
    split
    · omega
    · split <;> omega

theorem arith_Round_eq (k : Nat) (n b : Int) (h0 : -9223372036854775808 ≤ n) (h1 : n < 9223372036854775808) (hb0 : 0 ≤ b) (hb1 : b ≤ 62) :
    arith_Round.f (k + 1) n b = some (rnd n b.toNat) := by
  obtain ⟨b, rfl⟩ := Int.eq_ofNat_of_zero_le hb0
  simp only [arith_Round.f, arith_Round.j0]
  rw [if_neg (by omega), if_neg (by simp; omega), Int.toNat_natCast]
  unfold rnd
  by_cases hz : b = 0
  · subst hz; rfl
  · rw [if_neg (by omega), if_pos (by omega), w64 (by omega) (by omega), if_pos (by omega), if_neg hz]
    rw [and_one_i64]
    have e1 : shr .i64 n (b : Int) = n / 2 ^ b := by unfold shr; rw [Int.toNat_natCast, Nat.min_eq_left (by show b ≤ 64; omega)]
    have e2 : shr .i64 n ((b : Int) - 1) = n / 2 ^ (b - 1) := by
      unfold shr; rw [show ((b : Int) - 1).toNat = b - 1 from by omega, Nat.min_eq_left (by show b - 1 ≤ 64; omega)]
    rw [e1, e2]
    have := rnd_bd n b h0 h1
    unfold rnd at this
    rw [if_neg hz] at this
    rw [w64 this.1 (by omega)]
theorem arith_Round_no (k : Nat) (n b : Int) (hb : b < 0 ∨ 62 < b) : arith_Round.f (k + 1) n b = some 0 := by
  simp only [arith_Round.f, arith_Round.j0]
  by_cases h : b < 0
  · rw [if_pos h]; rfl
  · rw [if_neg h, if_pos (by simp; omega)]

theorem arith_ends_eq (w : Nat) (h0 : 1 ≤ w) (h1 : w ≤ 64) : arith_ends.f (w : Int) = some (least w, -(least w + 1)) := by
  unfold arith_ends.f
  rw [w64 (by omega) (by omega), if_pos (by omega)]
  have hl := least_bd h0 h1
  have e : wrap64 ((shl .i64 1 ((w : Int) - 1)) - 1) = -(least w + 1) := by
    unfold shl
    rw [show ((w : Int) - 1).toNat = w - 1 from by omega, Nat.min_eq_left (by show w - 1 ≤ 64; omega), IntKind.wrap_i64]
    unfold least at *
    have hp := pw_pos (w - 1)
    generalize (2 : Int) ^ (w - 1) = p at *
    unfold wrap64
    omega
  rw [e, show - -(least w + 1) = least w + 1 from by omega, w64 (x := least w + 1) (by omega) (by omega), w64 (by omega) (by omega)]
  congr 2
  omega
theorem arith_Sat_eq (n w : Int) : arith_Sat.f n w = some (sat n w) := by
  unfold arith_Sat.f sat
  by_cases ha : w < 1
  · rw [if_pos ha, if_pos (by omega)]
  · by_cases hb : w > 64
    · rw [if_neg ha, if_pos hb, if_pos (by omega)]
    · rw [if_neg ha, if_neg hb, if_neg (by omega)]
      obtain ⟨w, rfl⟩ := Int.eq_ofNat_of_zero_le (show 0 ≤ w by omega)
      rw [arith_ends_eq w (by omega) (by omega), Int.toNat_natCast]
      have hl := least_bd (w := w) (by omega) (by omega)
      simp only [Option.bind_some]
      congr 1
      unfold mn mx
      split <;> (try split) <;> (try split) <;> omega

theorem ref_Least_l (d : Nat) : ∀ (k : Nat) (w i : Int), 1 ≤ i → i ≤ w → w ≤ 64 → w - i = d → d < k → sidebandref01_Least.l0 k w (-2 ^ (i.toNat - 1)) i = some (least w.toNat) := by
  induction d with
  | zero =>
    intro k w i h0 h1 h2 hd hk
    obtain ⟨k, rfl⟩ : ∃ m, k = m + 1 := ⟨k - 1, by omega⟩
    simp only [sidebandref01_Least.l0]
    rw [if_neg (by omega), show i = w from by omega]; rfl
  | succ d ih =>
    intro k w i h0 h1 h2 hd hk
    obtain ⟨k, rfl⟩ : ∃ m, k = m + 1 := ⟨k - 1, by omega⟩
    simp only [sidebandref01_Least.l0]
    rw [if_pos (by omega), w64 (x := i + 1) (by omega) (by omega)]
    obtain ⟨j, rfl⟩ : ∃ j : Nat, i = j + 1 := ⟨i.toNat - 1, by omega⟩
    have e : wrap64 (-2 ^ (((j : Int) + 1).toNat - 1) * 2) = -2 ^ (((j : Int) + 1 + 1).toNat - 1) := by
      rw [show ((j : Int) + 1).toNat - 1 = j from by omega, show ((j : Int) + 1 + 1).toNat - 1 = j + 1 from by omega, pw_succ]
      have := pw_pos j
      have : (2 : Int) ^ j ≤ 2 ^ 62 := pw_le (by omega)
      rw [w64 (by omega) (by omega)]; omega
    rw [e]
    exact ih k w _ (by omega) (by omega) h2 (by omega) (by omega)
theorem ref_Least_eq (k : Nat) (hk : 64 ≤ k) (w : Nat) (h0 : 1 ≤ w) (h1 : w ≤ 64) : sidebandref01_Least.f k (w : Int) = some (least w) := by
  unfold sidebandref01_Least.f
  have := ref_Least_l (w - 1) k w 1 (by omega) (by omega) (by omega) (by omega) (by omega)
  simpa using this
theorem ref_Sat_eq (k : Nat) (hk : 65 ≤ k) (n w : Int) : sidebandref01_Sat.f k n w = some (sat n w) := by
  obtain ⟨k, rfl⟩ : ∃ m, k = m + 1 := ⟨k - 1, by omega⟩
  simp only [sidebandref01_Sat.f, sidebandref01_Sat.j0]
  unfold sat
  by_cases ha : w < 1
  · rw [if_pos ha, if_pos trivial, if_pos (by omega)]
  · by_cases hb : w > 64
    · rw [if_neg ha, if_pos (by simp; omega), if_pos (by omega)]
    · rw [if_neg ha, if_neg (by simp; omega), if_neg (by omega)]
      obtain ⟨w, rfl⟩ := Int.eq_ofNat_of_zero_le (show 0 ≤ w by omega)
      rw [ref_Least_eq k (by omega) w (by omega) (by omega), Int.toNat_natCast]
      have hl := least_bd (w := w) (by omega) (by omega)
      simp only [Option.bind_some]
      rw [w64 (x := least w + 1) (by omega) (by omega), w64 (by omega) (by omega)]
      split
      · rfl
      · split <;> rfl

theorem ref_Round_val (n : Int) (b : Nat) (h0 : -9223372036854775808 ≤ n) (h1 : n < 9223372036854775808) (hb : b ≤ 62) :
    (if Int.tmod n (2 ^ b) < 0 then (if (wrap64 ((Int.tmod n (2 ^ b)) + 2 ^ b)) ≥ (wrap64 (2 ^ b - (wrap64 ((Int.tmod n (2 ^ b)) + 2 ^ b)))) then (if (2 ^ b : Int) > 1 then (some (wrap64 ((wrap64 ((wrap64 (Int.tdiv n (2 ^ b))) - 1)) + 1))) else (some (wrap64 ((wrap64 (Int.tdiv n (2 ^ b))) - 1)))) else (some (wrap64 ((wrap64 (Int.tdiv n (2 ^ b))) - 1)))) else (if (Int.tmod n (2 ^ b)) ≥ (wrap64 (2 ^ b - (Int.tmod n (2 ^ b)))) then (if (2 ^ b : Int) > 1 then (some (wrap64 ((wrap64 (Int.tdiv n (2 ^ b))) + 1))) else (some (wrap64 (Int.tdiv n (2 ^ b))))) else (some (wrap64 (Int.tdiv n (2 ^ b)))))) = some (rnd n b) := by
  have hp := pw_pos b
  have hp2 := pw62 hb
  have hq : ∃ q r : Int, n / 2 ^ b = q ∧ n % 2 ^ b = r ∧ 0 ≤ r ∧ r < 2 ^ b ∧ -9223372036854775808 ≤ q ∧ q < 9223372036854775808 ∧ (1 < (2 ^ b : Int) → -4611686018427387904 ≤ q ∧ q < 4611686018427387904) :=
    ⟨_, _, rfl, rfl, Int.emod_nonneg _ (by omega), Int.emod_lt_of_pos _ hp, (div_bd n _ (by omega) h0 h1).1, (div_bd n _ (by omega) h0 h1).2, fun h => div2_bd n _ (by omega) h0 h1⟩
  obtain ⟨q, r, hq, hr, r0, r1, q0, q1, q2⟩ := hq
  have key : rnd n b = if 1 < (2 ^ b : Int) ∧ 2 * r ≥ 2 ^ b then q + 1 else q := by
    unfold rnd
    by_cases hz : b = 0
    · subst hz; rw [if_pos rfl, if_neg (by simp)]; simpa using hq
    · obtain ⟨c, rfl⟩ : ∃ c, b = c + 1 := ⟨b - 1, by omega⟩
      rw [if_neg hz, hq, Nat.add_sub_cancel]
      have hc := pw_pos c
      have hn := Int.mul_ediv_add_emod n (2 ^ (c + 1))
      rw [hq, hr, pw_succ] at hn
      rw [pw_succ] at r1 ⊢
      generalize (2 : Int) ^ c = e at *
      have e2 : n / e = r / e + 2 * q := by
        rw [← hn, show 2 * e * q + r = r + e * (2 * q) from by rw [Int.mul_comm 2 e, Int.mul_assoc]; omega, Int.add_mul_ediv_left _ _ (by omega)]
      rw [e2]
      by_cases hr2 : r < e
      · rw [Int.ediv_eq_zero_of_lt r0 hr2, if_neg (by omega)]; omega
      · have : r / e = 1 := by
          rw [show r = (r - e) + e * 1 from by omega, Int.add_mul_ediv_left _ _ (by omega), Int.ediv_eq_zero_of_lt (by omega) (by omega)]; omega
        rw [this, if_pos (by omega)]; omega
  rw [key]
  have ht := Int.tdiv_eq_ediv (a := n) (b := 2 ^ b)
  have hm := Int.tmod_eq_emod (a := n) (b := 2 ^ b)
  have hs : (2 ^ b : Int).sign = 1 := Int.sign_eq_one_of_pos hp
  have ha : ((2 ^ b : Int).natAbs : Int) = 2 ^ b := by omega
  rw [hq, hs] at ht
  rw [hr] at hm
  by_cases hd : 0 ≤ n ∨ (2 ^ b : Int) ∣ n
  · rw [if_pos hd] at ht hm
    have ht : Int.tdiv n (2 ^ b) = q := by omega
    have hm : Int.tmod n (2 ^ b) = r := by omega
    rw [ht, hm]
    generalize (2 : Int) ^ b = d at *
    rw [if_neg (by omega), w64 (x := d - r) (by omega) (by omega), w64 (x := q) (by omega) (by omega)]
    split
    · split
      · rw [if_pos (by omega), w64 (by omega) (by omega)]
      · rw [if_neg (by omega)]
    · rw [if_neg (by omega)]
  · rw [if_neg hd] at ht hm
    have hm : Int.tmod n (2 ^ b) = r - 2 ^ b := by omega
    rw [ht, hm]
    generalize (2 : Int) ^ b = d at *
    have hq9 : q + 1 ≤ 0 := by
      rw [← hq]
      have : n < 0 := by omega
      have := Int.ediv_neg_of_neg_of_pos this hp
      omega
    rw [if_pos (by omega), show r - d + d = r from by omega, w64 (x := r) (by omega) (by omega), w64 (x := d - r) (by omega) (by omega), w64 (x := q + 1) (by omega) (by omega), show q + 1 - 1 = q from by omega, w64 (x := q) (by omega) (by omega)]
    split
    · split
      · rw [if_pos (by omega), w64 (by omega) (by omega)]
      · rw [if_neg (by omega)]
    · rw [if_neg (by omega)]
theorem ref_Round_l (d : Nat) : ∀ (k : Nat) (n b i : Int), -9223372036854775808 ≤ n → n < 9223372036854775808 → 0 ≤ i → i ≤ b → b ≤ 62 → b - i = d → d < k → sidebandref01_Round.l0 k n b (2 ^ i.toNat) i = some (rnd n b.toNat) := by
  induction d with
  | zero =>
    intro k n b i n0 n1 h0 h1 h2 hd hk
    obtain ⟨k, rfl⟩ : ∃ m, k = m + 1 := ⟨k - 1, by omega⟩
    simp only [sidebandref01_Round.l0]
    obtain rfl : i = b := by omega
    have hp := pw_pos i.toNat
    rw [if_neg (by omega), if_neg (by omega)]
    exact ref_Round_val n i.toNat n0 n1 (by omega)
  | succ d ih =>
    intro k n b i n0 n1 h0 h1 h2 hd hk
    obtain ⟨k, rfl⟩ : ∃ m, k = m + 1 := ⟨k - 1, by omega⟩
    simp only [sidebandref01_Round.l0]
    rw [if_pos (by omega), w64 (x := i + 1) (by omega) (by omega)]
    have e : wrap64 (2 ^ i.toNat * 2) = 2 ^ (i + 1).toNat := by
      rw [show (i + 1).toNat = i.toNat + 1 from by omega, pw_succ]
      have := pw_pos i.toNat
      have : (2 : Int) ^ i.toNat ≤ 2 ^ 61 := pw_le (by omega)
      rw [w64 (by omega) (by omega)]; omega
    rw [e]
    exact ih k n b _ n0 n1 (by omega) (by omega) h2 (by omega) (by omega)
theorem ref_Round_eq (k : Nat) (hk : 64 ≤ k) (n b : Int) (h0 : -9223372036854775808 ≤ n) (h1 : n < 9223372036854775808) (hb0 : 0 ≤ b) (hb1 : b ≤ 62) :
    sidebandref01_Round.f k n b = some (rnd n b.toNat) := by
  obtain ⟨k, rfl⟩ : ∃ m, k = m + 1 := ⟨k - 1, by omega⟩
  simp only [sidebandref01_Round.f, sidebandref01_Round.j0]
  rw [if_neg (by omega), if_neg (by simp; omega)]
  have := ref_Round_l b.toNat k n b 0 h0 h1 (by omega) (by omega) (by omega) (by omega) (by omega)
  simpa using this
theorem ref_Round_no (k : Nat) (hk : 1 ≤ k) (n b : Int) (hb : b < 0 ∨ 62 < b) : sidebandref01_Round.f k n b = some 0 := by
  obtain ⟨k, rfl⟩ : ∃ m, k = m + 1 := ⟨k - 1, by omega⟩
  simp only [sidebandref01_Round.f, sidebandref01_Round.j0]
  by_cases h : b < 0
  · rw [if_pos h]; rfl
  · rw [if_neg h, if_pos (by simp; omega)]

theorem lives_k (k : Nat) (hk : 40 ≤ k) : sidebandlaw01_lives.f k = some true :=
  at_rounds (g := fun k => sidebandlaw01_lives.f k) (fun k => sidebandlaw01_lives.mono k) hk (by decide +kernel)
theorem mul_bd (a b : Int) (ha : -2147483648 ≤ a ∧ a < 2147483648) (hb : -2147483648 ≤ b ∧ b < 2147483648) : -9223372036854775808 ≤ a * b ∧ a * b < 9223372036854775808 := by
  have h1 : (a * b).natAbs ≤ 2147483648 * 2147483648 := by rw [Int.natAbs_mul]; exact Nat.mul_le_mul (by omega) (by omega)
  omega
theorem round_same (k : Nat) (hk : 64 ≤ k) (n b : Int) (h0 : -9223372036854775808 ≤ n) (h1 : n < 9223372036854775808) :
    ∃ r, arith_Round.f k n b = some r ∧ sidebandref01_Round.f k n b = some r ∧ -9223372036854775808 ≤ r ∧ r < 9223372036854775808 := by
  obtain ⟨j, rfl⟩ : ∃ m, k = m + 1 := ⟨k - 1, by omega⟩
  by_cases hb : 0 ≤ b ∧ b ≤ 62
  · exact ⟨_, arith_Round_eq j n b h0 h1 hb.1 hb.2, ref_Round_eq _ hk n b h0 h1 hb.1 hb.2, (rnd_bd n _ h0 h1).1, (rnd_bd n _ h0 h1).2⟩
  · exact ⟨_, arith_Round_no j n b (by omega), ref_Round_no _ (by omega) n b (by omega), by omega, by omega⟩
theorem loop_all (d : Nat) : ∀ (k : Nat) (n a b i : Int), -9223372036854775808 ≤ n → n < 9223372036854775808 → -2147483648 ≤ a ∧ a < 2147483648 → -2147483648 ≤ b ∧ b < 2147483648 → -1 ≤ i → i ≤ 65 → 65 - i = d → d + 70 < k → sidebandlaw01_ArithRounds.l0 k n a b i = some true := by
  induction d with
  | zero =>
    intro k n a b i n0 n1 ha hb i0 i1 hd hk
    obtain ⟨k, rfl⟩ : ∃ m, k = m + 1 := ⟨k - 1, by omega⟩
    simp only [sidebandlaw01_ArithRounds.l0, arith_Wide_int64.f, arith_Wide_int32.f, arith_Wide_int16.f, Option.bind_some]
    rw [if_neg (by omega), if_pos trivial, if_pos trivial]
    simp
  | succ d ih =>
    intro k n a b i n0 n1 ha hb i0 i1 hd hk
    obtain ⟨k, rfl⟩ : ∃ m, k = m + 1 := ⟨k - 1, by omega⟩
    simp only [sidebandlaw01_ArithRounds.l0]
    obtain ⟨r, e1, e2, r0, r1⟩ := round_same k (by omega) n i n0 n1
    have hm := mul_bd a b ha hb
    obtain ⟨s, f1, f2, s0, s1⟩ := round_same k (by omega) (a * b) i hm.1 hm.2
    rw [if_pos (by omega), e1, e2]
    simp only [Option.bind_some, if_true]
    unfold arith_Mul.f sidebandref01_Mul.f arith_Wide_int32.f
    simp only [Option.bind_some]
    rw [w64 (x := a) (by omega) (by omega), w64 (x := b) (by omega) (by omega), w64 (x := a * b) hm.1 hm.2, f1, f2]
    simp only [Option.bind_some]
    rw [arith_Sat_eq, ref_Sat_eq k (by omega)]
    simp only [Option.bind_some, if_true]
    rw [w64 (x := i + 1) (by omega) (by omega)]
    exact ih k n a b (i + 1) n0 n1 ha hb (by omega) (by omega) (by omega) (by omega)
theorem ArithRounds : sidebandlaw01_ArithRounds.Pure := by
  intro n a b hn ha hb
  refine ⟨200, ?_⟩
  unfold sidebandlaw01_ArithRounds.f
  rw [lives_k _ (by omega)]
  simp only [Option.bind_some, if_true]
  exact loop_all 66 200 n a b (-1) (wf_i64 hn).1 (wf_i64 hn).2 (wf_i32 ha) (wf_i32 hb) (by omega) (by omega) (by omega) (by omega)

end Go.Proofs.Ytoooienmcogbhaa.Pure
