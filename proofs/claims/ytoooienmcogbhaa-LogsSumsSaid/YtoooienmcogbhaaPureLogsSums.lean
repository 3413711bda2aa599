/-
  LogsSums: the logarithm of the sum of any powers, as the reference has it; no condition.
-/
import Derived.Test.YtoooienmcogbhaaPLogsSumsx3
set_option linter.unusedVariables false
set_option linter.unusedSimpArgs false
namespace Go.Proofs.Ytoooienmcogbhaa.Pure
open Go.RowKit Go.Proofs.Ytoooienmcogbhaa.PLogsSums Go.Proofs.YtoooienmcogbhaaW.PrintWords Go.Proofs.YtoooienmcogbhaaW.PrintLast Go.Proofs.YtoooienmcogbhaaW.PrintMore
open Go.Proofs.Ytoooienmcogbhaa.Lgs (expI prodI facV prodI_mod prodI_bd)

theorem w64 {x : Int} (h0 : -9223372036854775808 ≤ x) (h1 : x < 9223372036854775808) : wrap64 x = x := by unfold wrap64; omega
theorem w32 {x : Int} (h0 : -2147483648 ≤ x) (h1 : x < 2147483648) : wrap32 x = x := by unfold wrap32; omega
theorem wf_i64 {x : Int} (h : (Lit.int .i64 x).wf = true) : -9223372036854775808 ≤ x ∧ x < 9223372036854775808 := by
  simp [Lit.wf, IntKind.min, IntKind.max, IntKind.signed, IntKind.bits] at h; omega
theorem wf_i32 {x : Int} (h : (Lit.int .i32 x).wf = true) : -2147483648 ≤ x ∧ x < 2147483648 := by
  simp [Lit.wf, IntKind.min, IntKind.max, IntKind.signed, IntKind.bits] at h; omega
theorem wf_u64 {x : Int} (h : (Lit.int .u64 x).wf = true) : 0 ≤ x ∧ x < 18446744073709551616 := by
  simp [Lit.wf, IntKind.min, IntKind.max, IntKind.signed, IntKind.bits] at h; omega
theorem wf_u32 {x : Int} (h : (Lit.int .u32 x).wf = true) : 0 ≤ x ∧ x < 4294967296 := by
  simp [Lit.wf, IntKind.min, IntKind.max, IntKind.signed, IntKind.bits] at h; omega
/-- Powers of two as whole numbers: the greatest that are asked. -/
theorem pw_pos (n : Nat) : (0 : Int) < 2 ^ n := Int.pow_pos (by omega)
theorem pw_succ (n : Nat) : (2 : Int) ^ (n + 1) = 2 * 2 ^ n := by rw [Int.pow_succ]; omega
theorem pw_le {a b : Nat} (h : a ≤ b) : (2 : Int) ^ a ≤ 2 ^ b := by
  induction h with
  | refl => exact Int.le_refl _
  | step _ ih => rw [pw_succ]; have := pw_pos a; omega
theorem pw62 {n : Nat} (h : n ≤ 62) : (2 : Int) ^ n ≤ 4611686018427387904 := pw_le (a := n) (b := 62) h
theorem and_one_i64 (x : Int) : Go.bits .and .i64 x 1 = x % 2 := by
  show IntKind.i64.wrap ((BitVec.ofInt 64 x &&& BitVec.ofInt 64 1).toNat : Int) = _
  have h1 : (BitVec.ofInt 64 1).toNat = 1 := by decide
  have h2 : ((BitVec.ofInt 64 x).toNat : Int) = x % 18446744073709551616 := by
    rw [BitVec.toNat_ofInt, Int.toNat_of_nonneg (Int.emod_nonneg _ (by decide))]; rfl
  rw [BitVec.toNat_and, h1, Nat.and_one_is_mod, IntKind.wrap_i64]
  omega
/-- n divided by 2^by to the nearest, halves upwards. -/
def rnd (n : Int) (by_ : Nat) : Int := if by_ = 0 then n else n / 2 ^ by_ + n / 2 ^ (by_ - 1) % 2
theorem div_bd (n d : Int) (hd : 1 ≤ d) (h0 : -9223372036854775808 ≤ n) (h1 : n < 9223372036854775808) : -9223372036854775808 ≤ n / d ∧ n / d < 9223372036854775808 := by
  constructor
  · rw [Int.le_ediv_iff_mul_le (by omega)]
    have : (-9223372036854775808 : Int) * d ≤ -9223372036854775808 * 1 := Int.mul_le_mul_of_nonpos_left (by decide) hd
    omega
  · rw [Int.ediv_lt_iff_lt_mul (by omega)]
    have : (9223372036854775808 : Int) * 1 ≤ 9223372036854775808 * d := Int.mul_le_mul_of_nonneg_left hd (by decide)
    omega
theorem div2_bd (n d : Int) (hd : 2 ≤ d) (h0 : -9223372036854775808 ≤ n) (h1 : n < 9223372036854775808) : -4611686018427387904 ≤ n / d ∧ n / d < 4611686018427387904 := by
  constructor
  · rw [Int.le_ediv_iff_mul_le (by omega)]
    have : (-4611686018427387904 : Int) * d ≤ -4611686018427387904 * 2 := Int.mul_le_mul_of_nonpos_left (by decide) hd
    omega
  · rw [Int.ediv_lt_iff_lt_mul (by omega)]
    have : (4611686018427387904 : Int) * 2 ≤ 4611686018427387904 * d := Int.mul_le_mul_of_nonneg_left hd (by decide)
    omega
theorem rnd_bd (n : Int) (b : Nat) (h0 : -9223372036854775808 ≤ n) (h1 : n < 9223372036854775808) : -9223372036854775808 ≤ rnd n b ∧ rnd n b < 9223372036854775808 := by
  unfold rnd
  by_cases hb : b = 0
  · rw [if_pos hb]; exact ⟨h0, h1⟩
  · rw [if_neg hb]
    obtain ⟨c, rfl⟩ : ∃ c, b = c + 1 := ⟨b - 1, by omega⟩
    have := div2_bd n (2 ^ (c + 1)) (by rw [pw_succ]; have := pw_pos c; omega) h0 h1
    omega
/-- The least number of so many bits, from 1 to 64. -/
def least (w : Nat) : Int := -2 ^ (w - 1)
/-- n held to w bits; 0, if there are no such bits. -/
def sat (n w : Int) : Int := if w < 1 ∨ 64 < w then 0 else if n < least w.toNat then least w.toNat else if n > -(least w.toNat + 1) then -(least w.toNat + 1) else n
theorem least_bd {w : Nat} (h0 : 1 ≤ w) (h1 : w ≤ 64) : -9223372036854775808 ≤ least w ∧ least w ≤ -1 := by
  unfold least
  have := pw_pos (w - 1)
  have : (2 : Int) ^ (w - 1) ≤ 2 ^ 63 := pw_le (by omega)
  omega
theorem sat_bd (n w : Int) (h0 : -9223372036854775808 ≤ n) (h1 : n < 9223372036854775808) : -9223372036854775808 ≤ sat n w ∧ sat n w < 9223372036854775808 := by
  unfold sat
  by_cases h : w < 1 ∨ 64 < w
  · rw [if_pos h]; omega
  · rw [if_neg h]
    have := least_bd (w := w.toNat) (by omega) (by omega)
    split
    · omega
    · split <;> omega

theorem arith_ends_eq (w : Nat) (h0 : 1 ≤ w) (h1 : w ≤ 64) : arith_ends.f (w : Int) = some (least w, -(least w + 1)) := by
  unfold arith_ends.f
  rw [w64 (by omega) (by omega), if_pos (by omega)]
  have hl := least_bd h0 h1
  have e : wrap64 ((shl .i64 1 ((w : Int) - 1)) - 1) = -(least w + 1) := by
    unfold shl
    rw [show ((w : Int) - 1).toNat = w - 1 from by omega, Nat.min_eq_left (by show w - 1 ≤ 64; omega), IntKind.wrap_i64]
    unfold least at *
    have hp := pw_pos (w - 1)
    generalize (2 : Int) ^ (w - 1) = p at *
    unfold wrap64
    omega
  rw [e, show - -(least w + 1) = least w + 1 from by omega, w64 (x := least w + 1) (by omega) (by omega), w64 (by omega) (by omega)]
  congr 2
  omega
theorem arith_Sat_eq (n w : Int) : arith_Sat.f n w = some (sat n w) := by
  unfold arith_Sat.f sat
  by_cases ha : w < 1
  · rw [if_pos ha, if_pos (by omega)]
  · by_cases hb : w > 64
    · rw [if_neg ha, if_pos hb, if_pos (by omega)]
    · rw [if_neg ha, if_neg hb, if_neg (by omega)]
      obtain ⟨w, rfl⟩ := Int.eq_ofNat_of_zero_le (show 0 ≤ w by omega)
      rw [arith_ends_eq w (by omega) (by omega), Int.toNat_natCast]
      have hl := least_bd (w := w) (by omega) (by omega)
      simp only [Option.bind_some]
      congr 1
      unfold mn mx
      split <;> (try split) <;> (try split) <;> omega

def TABL : ByteArray := ⟨#[0, 1, 2, 2, 3, 3, 3, 3, 4, 4, 4, 4, 4, 4, 4, 4, 5, 5, 5, 5, 5, 5, 5, 5, 5, 5, 5, 5, 5, 5, 5, 5, 6, 6, 6, 6, 6, 6, 6, 6, 6, 6, 6, 6, 6, 6, 6, 6, 6, 6, 6, 6, 6, 6, 6, 6, 6, 6, 6, 6, 6, 6, 6, 6, 7, 7, 7, 7, 7, 7, 7, 7, 7, 7, 7, 7, 7, 7, 7, 7, 7, 7, 7, 7, 7, 7, 7, 7, 7, 7, 7, 7, 7, 7, 7, 7, 7, 7, 7, 7, 7, 7, 7, 7, 7, 7, 7, 7, 7, 7, 7, 7, 7, 7, 7, 7, 7, 7, 7, 7, 7, 7, 7, 7, 7, 7, 7, 7, 8, 8, 8, 8, 8, 8, 8, 8, 8, 8, 8, 8, 8, 8, 8, 8, 8, 8, 8, 8, 8, 8, 8, 8, 8, 8, 8, 8, 8, 8, 8, 8, 8, 8, 8, 8, 8, 8, 8, 8, 8, 8, 8, 8, 8, 8, 8, 8, 8, 8, 8, 8, 8, 8, 8, 8, 8, 8, 8, 8, 8, 8, 8, 8, 8, 8, 8, 8, 8, 8, 8, 8, 8, 8, 8, 8, 8, 8, 8, 8, 8, 8, 8, 8, 8, 8, 8, 8, 8, 8, 8, 8, 8, 8, 8, 8, 8, 8, 8, 8, 8, 8, 8, 8, 8, 8, 8, 8, 8, 8, 8, 8, 8, 8, 8, 8, 8, 8, 8, 8, 8, 8, 8, 8, 8, 8, 8, 8]⟩
/-- How many bits a number has. -/
def blen (n : Int) : Int := if n ≤ 0 then 0 else (n.toNat.log2 : Int) + 1
theorem TABL_all : ∀ i : Fin 256, bt TABL (i.val : Int) = blen (i.val : Int) := by decide +kernel
theorem TABL_eq (x : Int) (h0 : 0 ≤ x) (h1 : x < 256) : bt TABL x = blen x := by
  have := TABL_all ⟨x.toNat, by omega⟩
  simpa [Int.toNat_of_nonneg h0] using this
theorem blen_small {x : Int} (h0 : 0 ≤ x) (h1 : x < 256) : 0 ≤ blen x ∧ blen x ≤ 8 := by
  unfold blen
  split
  · omega
  · have := (Nat.log2_lt (n := x.toNat) (k := 8) (by omega)).2 (by omega)
    omega
theorem blen_div (x : Int) (j : Nat) (h : (2 : Int) ^ j ≤ x) : blen x = j + blen (x / 2 ^ j) := by
  have hp := pw_pos j
  have hx : 1 ≤ x / 2 ^ j := by rw [Int.le_ediv_iff_mul_le hp]; omega
  unfold blen
  rw [if_neg (by omega), if_neg (by omega)]
  obtain ⟨n, rfl⟩ := Int.eq_ofNat_of_zero_le (show 0 ≤ x by omega)
  have e : ((n : Int) / 2 ^ j).toNat = n / 2 ^ j := by
    rw [show ((2 : Int) ^ j) = ((2 ^ j : Nat) : Int) from by rw [Int.natCast_pow]; rfl, ← Int.natCast_ediv, Int.toNat_natCast]
  have hn : n / 2 ^ j ≠ 0 := by
    intro h0
    rw [← e] at h0
    omega
  rw [e, Int.toNat_natCast]
  have k1 := Nat.log2_self_le hn
  have k2 := Nat.lt_log2_self (n := n / 2 ^ j)
  have : n.log2 = j + (n / 2 ^ j).log2 := by
    rw [Nat.log2_eq_iff (by omega)]
    constructor
    · rw [Nat.pow_add, Nat.mul_comm]
      exact (Nat.le_div_iff_mul_le (Nat.two_pow_pos j)).1 k1
    · rw [show j + (n / 2 ^ j).log2 + 1 = ((n / 2 ^ j).log2 + 1) + j from by omega, Nat.pow_add]
      exact (Nat.div_lt_iff_lt_mul (Nat.two_pow_pos j)).1 k2
  omega
theorem blen_lt {x : Int} (h0 : 0 ≤ x) : x < 2 ^ (blen x).toNat := by
  unfold blen
  split
  · rw [show x = 0 from by omega]; decide
  · obtain ⟨n, rfl⟩ := Int.eq_ofNat_of_zero_le h0
    rw [show (((n : Int).toNat.log2 : Int) + 1).toNat = n.log2 + 1 from by rw [Int.toNat_natCast]; omega]
    have := Nat.lt_log2_self (n := n)
    rw [show ((2 : Int) ^ (n.log2 + 1)) = ((2 ^ (n.log2 + 1) : Nat) : Int) from by rw [Int.natCast_pow]; rfl]
    omega
theorem blen_ge {x : Int} (h : 1 ≤ x) : 1 ≤ blen x ∧ 2 ^ ((blen x).toNat - 1) ≤ x := by
  unfold blen
  rw [if_neg (by omega)]
  obtain ⟨n, rfl⟩ := Int.eq_ofNat_of_zero_le (show 0 ≤ x by omega)
  refine ⟨by omega, ?_⟩
  rw [show (((n : Int).toNat.log2 : Int) + 1).toNat - 1 = n.log2 from by rw [Int.toNat_natCast]; omega]
  have := Nat.log2_self_le (n := n) (by omega)
  rw [show ((2 : Int) ^ n.log2) = ((2 ^ n.log2 : Nat) : Int) from by rw [Int.natCast_pow]; rfl]
  omega
theorem blen_le {x : Int} {j : Nat} (h0 : 0 ≤ x) (h : x < 2 ^ j) : 0 ≤ blen x ∧ blen x ≤ j := by
  unfold blen
  split
  · omega
  · obtain ⟨n, rfl⟩ := Int.eq_ofNat_of_zero_le h0
    rw [Int.toNat_natCast]
    have : n.log2 < j := (Nat.log2_lt (by omega)).2 (by rw [show ((2 : Int) ^ j) = ((2 ^ j : Nat) : Int) from by rw [Int.natCast_pow]; rfl] at h; omega)
    omega

theorem len32_eq (a0 : Int) : bits_Len32.f a0 = (if a0 ≥ 65536 then (if (a0 / 65536) ≥ 256 then (if 0 ≤ (((a0 / 65536) / 256) % 256) then (if (((a0 / 65536) / 256) % 256) < 256 then (some (wrap64 ((16 + 8) + (wrap64 (bt TABL (((a0 / 65536) / 256) % 256)))))) else (none)) else (none)) else (if 0 ≤ ((a0 / 65536) % 256) then (if ((a0 / 65536) % 256) < 256 then (some (wrap64 (16 + (wrap64 (bt TABL ((a0 / 65536) % 256)))))) else (none)) else (none))) else (if a0 ≥ 256 then (if 0 ≤ ((a0 / 256) % 256) then (if ((a0 / 256) % 256) < 256 then (some (wrap64 (8 + (wrap64 (bt TABL ((a0 / 256) % 256)))))) else (none)) else (none)) else (if 0 ≤ ((a0) % 256) then (if ((a0) % 256) < 256 then (some (wrap64 (0 + wrap64 (bt TABL ((a0) % 256))))) else (none)) else (none)))) := by
  first | rfl | (rw [Int.zero_add]; rfl)
theorem len32 (x : Int) (h0 : 0 ≤ x) (h1 : x < 4294967296) : bits_Len32.f x = some (blen x) := by
  have core : ∀ y t : Int, 0 ≤ y → y < 256 → 0 ≤ t → t ≤ 56 → (if 0 ≤ y % 256 then (if y % 256 < 256 then some (wrap64 (t + wrap64 (bt TABL (y % 256)))) else none) else none) = some (t + blen y) := by
    intro y t hy0 hy1 ht0 ht1
    have hb := blen_small hy0 hy1
    rw [if_pos (by omega), if_pos (by omega), show y % 256 = y from by omega, TABL_eq y hy0 hy1, w64 (x := blen y) (by omega) (by omega), w64 (by omega) (by omega)]
  rw [len32_eq]
  by_cases ha : x ≥ 65536
  · rw [if_pos ha]
    have d1 := blen_div x 16 (by omega)
    rw [show ((2 : Int) ^ 16) = 65536 from by decide] at d1
    by_cases hb : x / 65536 ≥ 256
    · rw [if_pos hb]
      have d2 := blen_div (x / 65536) 8 (by omega)
      rw [show ((2 : Int) ^ 8) = 256 from by decide] at d2
      refine (core (x / 65536 / 256) (16 + 8) (by omega) (by omega) (by omega) (by omega)).trans ?_
      congr 1; omega
    · rw [if_neg hb]
      refine (core (x / 65536) 16 (by omega) (by omega) (by omega) (by omega)).trans ?_
      congr 1; omega
  · rw [if_neg ha]
    by_cases hb : x ≥ 256
    · rw [if_pos hb]
      have d2 := blen_div x 8 (by omega)
      rw [show ((2 : Int) ^ 8) = 256 from by decide] at d2
      refine (core (x / 256) 8 (by omega) (by omega) (by omega) (by omega)).trans ?_
      congr 1; omega
    · rw [if_neg hb]
      refine (core x 0 h0 (by omega) (by omega) (by omega)).trans ?_
      congr 1; omega

theorem prod_up : ∀ i : Fin 255, prodI (i.val : Int) 8 ≤ prodI ((i.val : Int) + 1) 8 := by decide +kernel
/-- The power, as one quotient. -/
def top (s : Int) : Int := prodI (s % 256) 8 * 2 ^ (s / 256).toNat
theorem top_up (s : Int) (h0 : 0 ≤ s) : top s ≤ top (s + 1) := by
  unfold top
  by_cases h : s % 256 < 255
  · rw [show (s + 1) % 256 = s % 256 + 1 from by omega, show (s + 1) / 256 = s / 256 from by omega]
    have := prod_up ⟨(s % 256).toNat, by omega⟩
    rw [show (((s % 256).toNat : Nat) : Int) = s % 256 from by omega] at this
    exact Int.mul_le_mul_of_nonneg_right this (by have := pw_pos (s / 256).toNat; omega)
  · rw [show (s + 1) % 256 = 0 from by omega, show (s + 1) / 256 = s / 256 + 1 from by omega, show (s / 256 + 1).toNat = (s / 256).toNat + 1 from by omega, pw_succ]
    have hb := prodI_bd (s % 256) 8 (by omega)
    have hp := pw_pos (s / 256).toNat
    have h2 : prodI (s % 256) 8 * 2 ^ (s / 256).toNat ≤ 2147483648 * 2 ^ (s / 256).toNat := Int.mul_le_mul_of_nonneg_right (by omega) (by omega)
    have h3 : prodI 0 8 = 1073741824 := by decide +kernel
    rw [h3]
    omega
theorem exp_top (s : Int) (h0 : 0 ≤ s) (h1 : s < 8192) : expI s = top s / 1073741824 := by
  have hb := prodI_bd s 8 (by omega)
  unfold expI top
  rw [← prodI_mod s 8 (by omega)]
  generalize prodI s 8 = p at *
  rw [if_neg (by omega), if_neg (by omega)]
  by_cases hq : s / 256 ≥ 30
  · rw [if_pos hq]
    have hc : (s / 256).toNat = 30 ∨ (s / 256).toNat = 31 := by omega
    rcases hc with h | h
    · rw [h, show (s / 256 - 30).toNat = 0 from by omega, show ((2 : Int) ^ 30) = 1073741824 from by decide, Int.mul_ediv_cancel _ (by decide)]
      simp only [Int.pow_zero, Int.mul_one]
      rw [if_pos (by omega)]
    · rw [h, show (s / 256 - 30).toNat = 1 from by omega, show ((2 : Int) ^ 31) = 2 * 1073741824 from by decide, ← Int.mul_assoc, Int.mul_ediv_cancel _ (by decide)]
      rw [show ((2 : Int) ^ 1) = 2 from by decide]
      rw [if_pos (by omega)]
  · rw [if_neg hq]
    obtain ⟨m, hm⟩ : ∃ m, (30 - s / 256).toNat = m := ⟨_, rfl⟩
    have hk : (s / 256).toNat + m = 30 := by omega
    rw [hm, show (1073741824 : Int) = 2 ^ (s / 256).toNat * 2 ^ m from by rw [← Int.pow_add, hk]; decide]
    rw [← Int.ediv_ediv_of_nonneg (by have := pw_pos (s / 256).toNat; omega), Int.mul_ediv_cancel _ (by have := pw_pos (s / 256).toNat; omega)]
theorem exp_up (s : Int) (h0 : 0 ≤ s) (h1 : s + 1 < 8192) : expI s ≤ expI (s + 1) := by
  rw [exp_top s h0 (by omega), exp_top (s + 1) (by omega) h1]
  exact Int.ediv_le_ediv (by decide) (top_up s h0)
theorem exp_mono (d : Nat) : ∀ a : Int, 0 ≤ a → a + d < 8192 → expI a ≤ expI (a + d) := by
  induction d with
  | zero => intro a _ _; simp
  | succ d ih =>
    intro a h0 h1
    have := ih a h0 (by omega)
    have := exp_up (a + d) (by omega) (by omega)
    rw [show a + ((d + 1 : Nat) : Int) = a + d + 1 from by omega]
    omega
theorem exp_le {a b : Int} (h0 : 0 ≤ a) (h : a ≤ b) (h1 : b < 8192) : expI a ≤ expI b := by
  have := exp_mono (b - a).toNat a h0 (by omega)
  rwa [show a + ((b - a).toNat : Int) = b from by omega] at this
theorem exp_oct (k : Nat) (hk : k ≤ 31) : expI (256 * k) = 2 ^ k := by
  rw [exp_top _ (by omega) (by omega)]
  unfold top
  rw [show (256 * (k : Int)) % 256 = 0 from by omega, show (256 * (k : Int)) / 256 = k from by omega, Int.toNat_natCast, show prodI 0 8 = 1073741824 from by decide +kernel]
  rw [Int.mul_comm, Int.mul_ediv_cancel _ (by decide)]
theorem exp_range (s : Int) : 0 ≤ expI s ∧ expI s ≤ 4294967295 := by
  by_cases h0 : s < 0
  · unfold expI; rw [if_pos h0]; omega
  · by_cases h1 : s ≥ 8192
    · unfold expI; rw [if_neg h0, if_pos h1]; omega
    · have hb := prodI_bd s 8 (by omega)
      have hp := pw_pos (30 - s / 256).toNat
      have hd : 0 ≤ prodI s 8 / 2 ^ (30 - s / 256).toNat := Int.ediv_nonneg (by omega) (by omega)
      have hd2 : prodI s 8 / 2 ^ (30 - s / 256).toNat ≤ prodI s 8 := Int.ediv_le_self _ (by omega)
      have hm : 0 ≤ prodI s 8 * 2 ^ (s / 256 - 30).toNat := Int.mul_nonneg (by omega) (by have := pw_pos (s / 256 - 30).toNat; omega)
      unfold expI
      rw [if_neg h0, if_neg h1]
      split
      · split <;> omega
      · omega
/-- L is the logarithm of n. -/
def IsLog (n L : Int) : Prop := 0 ≤ L ∧ L ≤ 8191 ∧ expI L ≤ n ∧ (L = 8191 ∨ n < expI (L + 1))
theorem IsLog.eq {n L M : Int} (h : IsLog n L) (k : IsLog n M) : L = M := by
  obtain ⟨a0, a1, a2, a3⟩ := h
  obtain ⟨b0, b1, b2, b3⟩ := k
  rcases Int.lt_trichotomy L M with h | h | h
  · have := exp_le (a := L + 1) (b := M) (by omega) (by omega) (by omega)
    omega
  · exact h
  · have := exp_le (a := M + 1) (b := L) (by omega) (by omega) (by omega)
    omega
theorem IsLog.ge {n L s : Int} (h : IsLog n L) (h0 : 0 ≤ s) (h1 : s ≤ 8191) (hs : expI s ≤ n) : s ≤ L := by
  obtain ⟨a0, a1, a2, a3⟩ := h
  by_cases hl : s ≤ L
  · exact hl
  · have := exp_le (a := L + 1) (b := s) (by omega) (by omega) (by omega)
    omega
theorem log_l (d : Nat) : ∀ (k : Nat) (n a b : Int), 0 ≤ n → n ≤ 4294967295 → 0 ≤ a → a < b → b ≤ 8192 → expI a ≤ n → (b = 8192 ∨ n < expI b) → b - a ≤ d → d < k → ∃ L, logs_Log.l0 k n a b = some L ∧ IsLog n L := by
  induction d with
  | zero => intro k n a b _ _ _ _ _ _ _ _ _; omega
  | succ d ih =>
    intro k n a b n0 n1 h0 h1 h2 ha hb hd hk
    obtain ⟨k, rfl⟩ : ∃ m, k = m + 1 := ⟨k - 1, by omega⟩
    simp only [logs_Log.l0]
    rw [w64 (x := b - a) (by omega) (by omega), w64 (x := a + b) (by omega) (by omega), Int.tdiv_eq_ediv_of_nonneg (by omega), w64 (x := (a + b) / 2) (by omega) (by omega)]
    by_cases h : b - a > 1
    · rw [if_pos h]
      unfold logs_Exp.f
      simp only [Option.bind_some]
      by_cases hm : expI ((a + b) / 2) ≤ n
      · rw [if_pos hm]
        exact ih k n _ b n0 n1 (by omega) (by omega) h2 hm hb (by omega) (by omega)
      · rw [if_neg hm]
        exact ih k n a _ n0 n1 h0 (by omega) (by omega) ha (.inr (by omega)) (by omega) (by omega)
    · rw [if_neg h]
      obtain rfl : b = a + 1 := by omega
      exact ⟨a, rfl, h0, by omega, ha, by rcases hb with hb | hb; exact .inl (by omega); exact .inr hb⟩
theorem log_eq (k : Nat) (hk : 8300 ≤ k) (n : Int) (n0 : 1 ≤ n) (n1 : n ≤ 4294967295) : ∃ L, logs_Log.f k n = some L ∧ IsLog n L := by
  unfold logs_Log.f
  rw [if_neg (by omega), len32 n (by omega) (by omega)]
  simp only [Option.bind_some]
  obtain ⟨b0, b1⟩ := blen_ge n0
  have b2 := blen_le (j := 32) (x := n) (by omega) (by omega)
  rw [w64 (x := blen n - 1) (by omega) (by omega), w64 (x := (blen n - 1) * 256) (by omega) (by omega)]
  have e := exp_oct ((blen n).toNat - 1) (by omega)
  rw [show 256 * (((blen n).toNat - 1 : Nat) : Int) = (blen n - 1) * 256 from by omega] at e
  exact log_l 8192 k n _ 8192 (by omega) n1 (by omega) (by omega) (by omega) (by omega) (.inl rfl) (by omega) (by omega)
theorem log_zero (k : Nat) : logs_Log.f k 0 = some (-1) := by unfold logs_Log.f; rw [if_pos rfl]

def facs : List Int := [1076653032, 1079572135, 1085434105, 1097253707, 1121280435, 1170923761, 1276901416, 1518500249]
theorem facs_k (k : Nat) (hk : 60 ≤ k) : sidebandref02_Factors.f k = some facs :=
  at_rounds (g := fun k => sidebandref02_Factors.f k) (fun k => sidebandref02_Factors.mono k) hk (by decide +kernel)
theorem rd_facs : ∀ j : Fin 8, rd facs (j.val : Int) = facV j.val := by decide
theorem rexp_l2_zero (k : Nat) (s p i : Int) (s0 : 0 ≤ s) (s1 : s < 8192) (p0 : 0 ≤ p) (p1 : p < 17179869184) (i0 : 30 ≤ i) (hd : s / 256 ≤ i) (hk : 0 < k) : sidebandref02_Exp.l2 k s p i = some (if p > 4294967295 then 4294967295 else p) := by
  obtain ⟨k, rfl⟩ : ∃ m, k = m + 1 := ⟨k - 1, by omega⟩
  simp only [sidebandref02_Exp.l2]
  rw [Int.tdiv_eq_ediv_of_nonneg s0, w64 (x := s / 256) (by omega) (by omega), if_neg (by omega)]
  split
  · rfl
  · congr 1; omega
theorem rexp_l2 (k : Nat) (s p : Int) (s0 : 0 ≤ s) (s1 : s < 8192) (p0 : 0 ≤ p) (p1 : p < 4294967296) (hk : 2 < k) : sidebandref02_Exp.l2 k s p 30 = some (if p * 2 ^ (s / 256 - 30).toNat > 4294967295 then 4294967295 else p * 2 ^ (s / 256 - 30).toNat) := by
  by_cases h : s / 256 ≤ 30
  · rw [rexp_l2_zero k s p 30 s0 s1 p0 (by omega) (by omega) h (by omega), show (s / 256 - 30).toNat = 0 from by omega]; simp
  · obtain ⟨k, rfl⟩ : ∃ m, k = m + 1 := ⟨k - 1, by omega⟩
    simp only [sidebandref02_Exp.l2]
    rw [Int.tdiv_eq_ediv_of_nonneg s0, w64 (x := s / 256) (by omega) (by omega), if_pos (by omega), w64 (x := p * 2) (by omega) (by omega), show wrap64 (30 + 1) = 31 from by unfold wrap64; omega, rexp_l2_zero k s (p * 2) 31 s0 s1 (by omega) (by omega) (by omega) (by omega) (by omega), show (s / 256 - 30).toNat = 1 from by omega, show ((2 : Int) ^ 1) = 2 from by decide]
theorem rexp_l1 (d : Nat) : ∀ (k : Nat) (s p i : Int), 0 ≤ s → s < 8192 → 0 ≤ p → p < 4294967296 → 0 ≤ i → 30 - s / 256 - i = d → d + 3 < k → sidebandref02_Exp.l1 k s p i = some (p / 2 ^ d) := by
  induction d with
  | zero =>
    intro k s p i s0 s1 p0 p1 i0 hd hk
    obtain ⟨k, rfl⟩ : ∃ m, k = m + 1 := ⟨k - 1, by omega⟩
    simp only [sidebandref02_Exp.l1, Int.pow_zero, Int.ediv_one]
    rw [Int.tdiv_eq_ediv_of_nonneg s0, w64 (x := s / 256) (by omega) (by omega), w64 (x := 30 - s / 256) (by omega) (by omega), if_neg (by omega), rexp_l2 k s p s0 s1 p0 p1 (by omega), show (s / 256 - 30).toNat = 0 from by omega]
    simp only [Int.pow_zero, Int.mul_one]
    rw [if_neg (by omega)]
  | succ d ih =>
    intro k s p i s0 s1 p0 p1 i0 hd hk
    obtain ⟨k, rfl⟩ : ∃ m, k = m + 1 := ⟨k - 1, by omega⟩
    simp only [sidebandref02_Exp.l1]
    rw [Int.tdiv_eq_ediv_of_nonneg s0, w64 (x := s / 256) (by omega) (by omega), w64 (x := 30 - s / 256) (by omega) (by omega), if_pos (by omega), Int.tdiv_eq_ediv_of_nonneg p0, w64 (x := p / 2) (by omega) (by omega), w64 (x := i + 1) (by omega) (by omega), ih k s (p / 2) (i + 1) s0 s1 (by omega) (by omega) (by omega) (by omega) (by omega), pw_succ, Int.ediv_ediv_of_nonneg (by omega)]
theorem rexp_end (k : Nat) (hk : 40 < k) (s : Int) (s0 : 0 ≤ s) (s1 : s < 8192) : sidebandref02_Exp.l1 k s (prodI s 8) 0 = some (expI s) := by
  have hb := prodI_bd s 8 (by omega)
  unfold expI
  rw [if_neg (by omega), if_neg (by omega)]
  by_cases hq : s / 256 ≥ 30
  · rw [if_pos hq]
    obtain ⟨k, rfl⟩ : ∃ m, k = m + 1 := ⟨k - 1, by omega⟩
    simp only [sidebandref02_Exp.l1]
    rw [Int.tdiv_eq_ediv_of_nonneg s0, w64 (x := s / 256) (by omega) (by omega), w64 (x := 30 - s / 256) (by omega) (by omega), if_neg (by omega), rexp_l2 k s _ s0 s1 (by omega) (by omega) (by omega)]
    split
    · rw [if_neg (by omega)]
    · rw [if_pos (by omega)]
  · rw [if_neg hq]
    exact rexp_l1 (30 - s / 256).toNat k s _ 0 s0 s1 (by omega) (by omega) (by omega) (by omega) (by omega)
theorem rexp_l0 (d : Nat) : ∀ (k : Nat) (s : Int) (j : Nat), 0 ≤ s → s < 8192 → j + d = 8 → d + 50 < k → sidebandref02_Exp.l0 k s (prodI s j) facs (j : Int) = some (expI s) := by
  induction d with
  | zero =>
    intro k s j s0 s1 hj hk
    obtain ⟨k, rfl⟩ : ∃ m, k = m + 1 := ⟨k - 1, by omega⟩
    obtain rfl : j = 8 := by omega
    simp only [sidebandref02_Exp.l0]
    rw [if_neg (by omega)]
    exact rexp_end k (by omega) s s0 s1
  | succ d ih =>
    intro k s j s0 s1 hj hk
    obtain ⟨k, rfl⟩ : ∃ m, k = m + 1 := ⟨k - 1, by omega⟩
    have hb := prodI_bd s j (by omega)
    have hf := rd_facs ⟨j, by omega⟩
    simp only at hf
    have hfb : 0 ≤ facV j ∧ facV j < 2147483648 := by
      have : ∀ j : Fin 8, 0 ≤ facV j.val ∧ facV j.val < 2147483648 := by decide
      exact this ⟨j, by omega⟩
    have hp := pw_pos j
    have hsd : 0 ≤ s / 2 ^ j := Int.ediv_nonneg s0 (by omega)
    have hm : prodI s j * facV j < 4611686018427387904 := by
      have h1 : prodI s j * facV j ≤ 2147483648 * facV j := Int.mul_le_mul_of_nonneg_right (by omega) hfb.1
      omega
    have hm0 : 0 ≤ prodI s j * facV j := Int.mul_nonneg (by omega) hfb.1
    have hlen : (facs.length : Int) = 8 := rfl
    have es : shr .i64 s (j : Int) = s / 2 ^ j := by unfold shr; rw [Int.toNat_natCast, Nat.min_eq_left (by show j ≤ 64; omega)]
    have hnext : prodI s (j + 1) = if (s / 2 ^ j) % 2 = 1 then prodI s j * facV j / 1073741824 else prodI s j := rfl
    simp only [sidebandref02_Exp.l0]
    rw [if_pos (by omega), if_pos (by omega), es, Int.tmod_eq_emod_of_nonneg hsd, w64 (x := (j : Int) + 1) (by omega) (by omega), show ((j : Int) + 1) = ((j + 1 : Nat) : Int) from rfl]
    have go := ih k s (j + 1) s0 s1 (by omega) (by omega)
    rw [hnext] at go
    by_cases ht : (s / 2 ^ j) % 2 = 1
    · rw [if_pos ht, hlen, if_pos (by omega), hf, w64 (x := prodI s j * facV j) (by omega) (by omega), Int.tdiv_eq_ediv_of_nonneg hm0, w64 (x := prodI s j * facV j / 1073741824) (by omega) (by omega)]
      rw [if_pos ht] at go
      exact go
    · rw [if_neg ht]
      rw [if_neg ht] at go
      exact go
theorem rexp_eq (k : Nat) (hk : 70 ≤ k) (s : Int) : sidebandref02_Exp.f k s = some (expI s) := by
  unfold sidebandref02_Exp.f
  by_cases h0 : s < 0
  · rw [if_pos h0]; unfold expI; rw [if_pos h0]
  · by_cases h1 : s > 8191
    · rw [if_neg h0, if_pos h1]; unfold expI; rw [if_neg h0, if_pos (by omega)]
    · rw [if_neg h0, if_neg h1, facs_k k (by omega)]
      simp only [Option.bind_some]
      exact rexp_l0 8 k s 0 (by omega) (by omega) (by omega) (by omega)
theorem rd_natD (l : List Int) (i : Nat) : rd l (i : Int) = l.getD i 0 := by unfold rd; rw [Int.toNat_natCast]
theorem powers_l (d : Nat) : ∀ (k : Nat) (l : List Int) (j : Nat), l.length = 8192 → j + d = 8192 → (∀ i : Nat, i < j → rd l (i : Int) = expI i) → d + 80 < k → ∃ m, sidebandref02_Powers.l0 k l (j : Int) = some m ∧ m.length = 8192 ∧ ∀ i : Nat, i < 8192 → rd m (i : Int) = expI i := by
  induction d with
  | zero =>
    intro k l j hl hj hi hk
    obtain ⟨k, rfl⟩ : ∃ m, k = m + 1 := ⟨k - 1, by omega⟩
    simp only [sidebandref02_Powers.l0]
    rw [if_neg (by omega)]
    exact ⟨l, rfl, hl, fun i h => hi i (by omega)⟩
  | succ d ih =>
    intro k l j hl hj hi hk
    obtain ⟨k, rfl⟩ : ∃ m, k = m + 1 := ⟨k - 1, by omega⟩
    simp only [sidebandref02_Powers.l0]
    rw [if_pos (by omega), rexp_eq k (by omega)]
    simp only [Option.bind_some]
    rw [if_pos (by omega), if_pos (by omega), w64 (x := (j : Int) + 1) (by omega) (by omega), Int.toNat_natCast]
    refine ih k (l.set j (expI j)) (j + 1) (by simpa using hl) (by omega) (fun i h => ?_) (by omega)
    by_cases he : i = j
    · subst he
      rw [rd_natD, List.getD_eq_getElem?_getD, List.getElem?_set_self (by omega)]; rfl
    · have := hi i (by omega)
      rw [rd_natD, List.getD_eq_getElem?_getD] at this ⊢
      rw [List.getElem?_set_ne (by omega)]
      exact this
theorem powers_eq (k : Nat) (hk : 8300 ≤ k) : ∃ m, sidebandref02_Powers.f k = some m ∧ m.length = 8192 ∧ ∀ i : Nat, i < 8192 → rd m (i : Int) = expI i := by
  unfold sidebandref02_Powers.f
  rw [if_pos (by decide)]
  exact powers_l 8192 k _ 0 List.length_replicate (by omega) (fun i h => by omega) (by omega)
theorem rlog_l (m : List Int) (hm : m.length = 8192) (hi : ∀ i : Nat, i < 8192 → rd m (i : Int) = expI i) (n : Int) (n0 : 1 ≤ n) (d : Nat) : ∀ (k : Nat) (b : Int) (j : Nat), j + d = 8192 → 1 ≤ j → (0 ≤ b ∧ b < j ∧ expI b ≤ n ∧ (b + 1 = j ∨ n < expI (b + 1))) → d < k →
    ∃ L, sidebandref02_Log.l0 k n m b (j : Int) = some L ∧ IsLog n L := by
  induction d with
  | zero =>
    intro k b j hj hj1 ⟨b0, b1, b2, b3⟩ hk
    obtain ⟨k, rfl⟩ : ∃ m, k = m + 1 := ⟨k - 1, by omega⟩
    simp only [sidebandref02_Log.l0]
    rw [if_neg (by omega)]
    exact ⟨b, rfl, b0, by omega, b2, by rcases b3 with h | h; exact .inl (by omega); exact .inr h⟩
  | succ d ih =>
    intro k b j hj hj1 ⟨b0, b1, b2, b3⟩ hk
    obtain ⟨k, rfl⟩ : ∃ m, k = m + 1 := ⟨k - 1, by omega⟩
    simp only [sidebandref02_Log.l0]
    rw [if_pos (by omega), if_pos (by omega), if_pos (by omega), if_pos (by omega), hi j (by omega), w64 (x := (j : Int) + 1) (by omega) (by omega), show ((j : Int) + 1) = ((j + 1 : Nat) : Int) from rfl]
    by_cases h : expI (j : Int) ≤ n
    · rw [if_pos h]
      exact ih k (j : Int) (j + 1) (by omega) (by omega) ⟨by omega, by omega, h, .inl rfl⟩ (by omega)
    · rw [if_neg h]
      refine ih k b (j + 1) (by omega) (by omega) ⟨b0, by omega, b2, ?_⟩ (by omega)
      rcases b3 with h3 | h3
      · exact .inr (by rw [h3]; omega)
      · exact .inr h3
theorem rlog_eq (m : List Int) (hm : m.length = 8192) (hi : ∀ i : Nat, i < 8192 → rd m (i : Int) = expI i) (k : Nat) (hk : 8300 ≤ k) (n : Int) (n0 : 1 ≤ n) : ∃ L, sidebandref02_Log.f k n m = some L ∧ IsLog n L := by
  unfold sidebandref02_Log.f
  obtain ⟨k, rfl⟩ : ∃ m, k = m + 1 := ⟨k - 1, by omega⟩
  simp only [sidebandref02_Log.l0]
  have e0 := hi 0 (by omega)
  have e1 : expI 0 = 1 := by decide +kernel
  rw [show ((0 : Nat) : Int) = 0 from rfl] at e0
  rw [if_pos (by omega), if_pos (by omega), if_pos (by omega), if_pos (by omega), e0, e1, if_pos (by omega), show wrap64 (0 + 1) = ((1 : Nat) : Int) from by unfold wrap64; omega]
  exact rlog_l m hm hi n n0 8191 k 0 1 (by omega) (by omega) ⟨by omega, by omega, by omega, .inl rfl⟩ (by omega)
theorem rlog_zero (m : List Int) (d : Nat) : ∀ (k : Nat) (j : Nat), j + d = 8192 → d < k → sidebandref02_Log.l0 k 0 m (-1) (j : Int) = some (-1) := by
  induction d with
  | zero =>
    intro k j hj hk
    obtain ⟨k, rfl⟩ : ∃ m, k = m + 1 := ⟨k - 1, by omega⟩
    simp only [sidebandref02_Log.l0]
    rw [if_neg (by omega)]
  | succ d ih =>
    intro k j hj hk
    obtain ⟨k, rfl⟩ : ∃ m, k = m + 1 := ⟨k - 1, by omega⟩
    simp only [sidebandref02_Log.l0]
    rw [if_pos (by omega), if_neg (by omega), w64 (x := (j : Int) + 1) (by omega) (by omega)]
    exact ih k (j + 1) (by omega) (by omega)
/-- Both logarithms of any number of thirty-two bits. -/
theorem logs_same (k : Nat) (hk : 8400 ≤ k) (m : List Int) (hm : m.length = 8192) (hi : ∀ i : Nat, i < 8192 → rd m (i : Int) = expI i) (n : Int) (n0 : 0 ≤ n) (n1 : n ≤ 4294967295) : ∃ L, logs_Log.f k n = some L ∧ sidebandref02_Log.f k n m = some L := by
  by_cases h : n = 0
  · subst h
    exact ⟨-1, log_zero k, by unfold sidebandref02_Log.f; exact rlog_zero m 8192 k 0 (by omega) (by omega)⟩
  · obtain ⟨L, h1, h2⟩ := log_eq k (by omega) n (by omega) n1
    obtain ⟨M, h3, h4⟩ := rlog_eq m hm hi k (by omega) n (by omega)
    exact ⟨L, h1, by rw [h3, h2.eq h4]⟩
theorem lives_k (k : Nat) (hk : 8400 ≤ k) : sidebandlaw02_lives.f k = some true := by
  obtain ⟨m, hm, hml, hmi⟩ := powers_eq k (by omega)
  obtain ⟨L, h1, h2⟩ := logs_same k hk m hml hmi 3 (by omega) (by omega)
  obtain ⟨M, h3, h4⟩ := log_eq k (by omega) 3 (by omega) (by omega)
  obtain rfl : L = M := by rw [h1] at h3; exact Option.some.inj h3
  have hL : 401 ≤ L := h4.ge (by omega) (by omega) (by decide +kernel)
  unfold sidebandlaw02_lives.f logs_Exp.f
  simp only [Option.bind_some]
  rw [if_pos (by decide +kernel), if_pos (by decide +kernel), h1, hm]
  simp only [Option.bind_some]
  rw [h2]
  simp only [Option.bind_some, if_true]
  rw [if_pos (by omega)]

theorem sat33 (x : Int) (h0 : 0 ≤ x) : arith_Sat.f x 33 = some (if x > 4294967295 then 4294967295 else x) := by
  rw [arith_Sat_eq]
  unfold sat
  have e : least (33 : Int).toNat = -4294967296 := by decide
  rw [if_neg (by omega), e, if_neg (by omega)]
  rfl
/-- A sum, held to the greatest number of thirty-two bits. -/
def held (x : Int) : Int := if x > 4294967295 then 4294967295 else x
theorem mn_held (x : Int) (h0 : 0 ≤ x) : mn x 4294967295 = held x ∧ 0 ≤ held x ∧ held x ≤ 4294967295 := by unfold mn held; split <;> omega
theorem mn_mod (x : Int) (h0 : 0 ≤ x) : mn x 4294967295 % 4294967296 = held x := by
  have := mn_held x h0
  omega
theorem held_held (x : Int) : held (held x) = held x := by unfold held; split <;> (try split) <;> omega
/-- The sum of the powers from a place on. -/
def tot (l : List Int) : Int := (l.map expI).foldl (· + ·) 0
def tot1 : List Int → Int
  | [] => 0
  | x :: l => expI x + tot1 l
theorem tot1_bd (l : List Int) : 0 ≤ tot1 l ∧ tot1 l ≤ 4294967295 * l.length := by
  induction l with
  | nil => simp [tot1]
  | cons x l ih =>
    have := exp_range x
    rw [List.length_cons]
    show 0 ≤ expI x + tot1 l ∧ expI x + tot1 l ≤ _
    omega
theorem sum_l (l : List Int) (hl : l.length ≤ 100) (d : Nat) : ∀ (k : Nat) (s : Int) (j : Nat), 0 ≤ s → s ≤ 4294967295 → j + d = l.length → d + 8400 < k →
    logs_Sum.l0 k s l (l.length : Int) (j : Int) = (logs_Log.f (k - d - 1) (held (s + tot1 (l.drop j)))).bind fun t => some t := by
  induction d with
  | zero =>
    intro k s j s0 s1 hj hk
    obtain ⟨k, rfl⟩ : ∃ m, k = m + 1 := ⟨k - 1, by omega⟩
    simp only [logs_Sum.l0]
    rw [if_neg (by omega), mn_mod s s0, List.drop_of_length_le (by omega)]
    simp [tot1]
  | succ d ih =>
    intro k s j s0 s1 hj hk
    obtain ⟨k, rfl⟩ : ∃ m, k = m + 1 := ⟨k - 1, by omega⟩
    have hjl : j < l.length := by omega
    have he := exp_range (rd l (j : Int))
    simp only [logs_Sum.l0, logs_Exp.f, Option.bind_some]
    rw [if_pos (by omega), if_pos (by omega), if_pos (by omega), w64 (x := expI (rd l (j : Int))) (by omega) (by omega), w64 (x := s + expI (rd l (j : Int))) (by omega) (by omega), sat33 _ (by omega), w64 (x := (j : Int) + 1) (by omega) (by omega), show ((j : Int) + 1) = ((j + 1 : Nat) : Int) from rfl]
    simp only [Option.bind_some]
    rw [ih k _ (j + 1) (by split <;> omega) (by split <;> omega) (by omega) (by omega), show k + 1 - (d + 1) - 1 = k - d - 1 from by omega, List.drop_eq_getElem_cons hjl]
    have hx : rd l (j : Int) = l[j] := by unfold rd; rw [Int.toNat_natCast, List.getD_eq_getElem?_getD, List.getElem?_eq_getElem hjl]; rfl
    have ht := tot1_bd (l.drop (j + 1))
    have : held ((if s + expI (rd l (j : Int)) > 4294967295 then 4294967295 else s + expI (rd l (j : Int))) + tot1 (l.drop (j + 1))) = held (s + tot1 (l[j] :: l.drop (j + 1))) := by
      show _ = held (s + (expI l[j] + tot1 (l.drop (j + 1))))
      rw [hx]
      unfold held
      split <;> split <;> (try split) <;> omega
    rw [this]
theorem law_l (l : List Int) (hl : l.length ≤ 60) (d : Nat) : ∀ (k : Nat) (s : Int) (o : List Int) (j : Nat), j + d = l.length → o.length = j → s = tot1 o → d + 8700 < k →
    sidebandlaw02_LogsSums.l0 k s o l (l.length : Int) (j : Int) = some true := by
  induction d with
  | zero =>
    intro k s o j hj ho hs hk
    obtain ⟨k, rfl⟩ : ∃ m, k = m + 1 := ⟨k - 1, by omega⟩
    have ht := tot1_bd o
    simp only [sidebandlaw02_LogsSums.l0]
    rw [if_neg (by omega)]
    unfold logs_Sum.f
    have e := sum_l o (by omega) o.length k 0 0 (by omega) (by omega) (by omega) (by omega)
    rw [show ((0 : Nat) : Int) = 0 from rfl, List.drop_zero, Int.zero_add] at e
    have hh := mn_held (tot1 o) ht.1
    obtain ⟨m, hm, hml, hmi⟩ := powers_eq k (by omega)
    obtain ⟨L, h1, h2⟩ := logs_same (k - o.length - 1) (by omega) m hml hmi (held (tot1 o)) hh.2.1 hh.2.2
    obtain ⟨M, h3, h4⟩ := logs_same k (by omega) m hml hmi (held (tot1 o)) hh.2.1 hh.2.2
    have hLM : L = M := by
      have := at_rounds (g := fun k => logs_Log.f k (held (tot1 o))) (fun k => logs_Log.mono _ k) (show k - o.length - 1 ≤ k by omega) h1
      exact Option.some.inj (this.symm.trans h3)
    rw [e, h1, hm]
    simp only [Option.bind_some]
    rw [hs, mn_mod _ ht.1, h4]
    simp [hLM]
  | succ d ih =>
    intro k s o j hj ho hs hk
    obtain ⟨k, rfl⟩ : ∃ m, k = m + 1 := ⟨k - 1, by omega⟩
    have ht := tot1_bd o
    have he := exp_range (Int.tmod (rd l (j : Int)) 8300)
    simp only [sidebandlaw02_LogsSums.l0]
    rw [if_pos (by omega), if_pos (by omega), if_pos (by omega), if_pos (by omega), rexp_eq k (by omega), w64 (x := (j : Int) + 1) (by omega) (by omega), show ((j : Int) + 1) = ((j + 1 : Nat) : Int) from rfl]
    simp only [Option.bind_some, IntKind.wrap_u64]
    refine ih k _ _ (j + 1) (by omega) (by simp [ho]) ?_ (by omega)
    have happ : ∀ (o : List Int) (x : Int), tot1 (o ++ [x]) = tot1 o + expI x := by
      intro o x
      induction o with
      | nil => simp [tot1]
      | cons y o ih => show expI y + tot1 (o ++ [x]) = expI y + tot1 o + expI x; rw [ih]; omega
    rw [happ, ← hs]
    omega
theorem LogsSums : sidebandlaw02_LogsSums.Pure := by
  intro l hl1 hl2 hl
  refine ⟨9001, ?_⟩
  unfold sidebandlaw02_LogsSums.f
  rw [lives_k _ (by omega)]
  simp only [Option.bind_some, if_true]
  show sidebandlaw02_LogsSums.j0 (9000 + 1) l _ = _
  simp only [sidebandlaw02_LogsSums.j0]
  by_cases h : (l.length : Int) > 60
  · rw [if_pos (by simpa using h), lives_k _ (by omega)]; rfl
  · rw [if_neg (by simpa using h)]
    exact law_l l (by omega) l.length 9000 0 [] 0 (by omega) rfl rfl (by omega)

end Go.Proofs.Ytoooienmcogbhaa.Pure
