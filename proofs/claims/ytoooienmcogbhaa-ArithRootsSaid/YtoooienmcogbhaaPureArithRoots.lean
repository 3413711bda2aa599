/-
  ArithRoots: the root of any number of sixty-four bits is the greatest whose square is not above it, and a square has its root; no condition.
-/
import Derived.Test.YtoooienmcogbhaaPArithRootsx1
set_option linter.unusedVariables false
set_option linter.unusedSimpArgs false
namespace Go.Proofs.Ytoooienmcogbhaa.Pure
open Go.RowKit Go.Proofs.Ytoooienmcogbhaa.PArithRoots Go.Proofs.YtoooienmcogbhaaW.PrintWords Go.Proofs.YtoooienmcogbhaaW.PrintLast Go.Proofs.YtoooienmcogbhaaW.PrintMore

theorem w64 {x : Int} (h0 : -9223372036854775808 ≤ x) (h1 : x < 9223372036854775808) : wrap64 x = x := by unfold wrap64; omega
theorem w32 {x : Int} (h0 : -2147483648 ≤ x) (h1 : x < 2147483648) : wrap32 x = x := by unfold wrap32; omega
theorem wf_i64 {x : Int} (h : (Lit.int .i64 x).wf = true) : -9223372036854775808 ≤ x ∧ x < 9223372036854775808 := by
  simp [Lit.wf, IntKind.min, IntKind.max, IntKind.signed, IntKind.bits] at h; omega
theorem wf_i32 {x : Int} (h : (Lit.int .i32 x).wf = true) : -2147483648 ≤ x ∧ x < 2147483648 := by
  simp [Lit.wf, IntKind.min, IntKind.max, IntKind.signed, IntKind.bits] at h; omega
theorem wf_u64 {x : Int} (h : (Lit.int .u64 x).wf = true) : 0 ≤ x ∧ x < 18446744073709551616 := by
  simp [Lit.wf, IntKind.min, IntKind.max, IntKind.signed, IntKind.bits] at h; omega
theorem wf_u32 {x : Int} (h : (Lit.int .u32 x).wf = true) : 0 ≤ x ∧ x < 4294967296 := by
  simp [Lit.wf, IntKind.min, IntKind.max, IntKind.signed, IntKind.bits] at h; omega
/-- Powers of two as whole numbers: the greatest that are asked. -/
theorem pw_pos (n : Nat) : (0 : Int) < 2 ^ n := Int.pow_pos (by omega)
theorem pw_succ (n : Nat) : (2 : Int) ^ (n + 1) = 2 * 2 ^ n := by rw [Int.pow_succ]; omega
theorem pw_le {a b : Nat} (h : a ≤ b) : (2 : Int) ^ a ≤ 2 ^ b := by
  induction h with
  | refl => exact Int.le_refl _
  | step _ ih => rw [pw_succ]; have := pw_pos a; omega
theorem pw62 {n : Nat} (h : n ≤ 62) : (2 : Int) ^ n ≤ 4611686018427387904 := pw_le (a := n) (b := 62) h
theorem and_one_i64 (x : Int) : Go.bits .and .i64 x 1 = x % 2 := by
  show IntKind.i64.wrap ((BitVec.ofInt 64 x &&& BitVec.ofInt 64 1).toNat : Int) = _
  have h1 : (BitVec.ofInt 64 1).toNat = 1 := by decide
  have h2 : ((BitVec.ofInt 64 x).toNat : Int) = x % 18446744073709551616 := by
    rw [BitVec.toNat_ofInt, Int.toNat_of_nonneg (Int.emod_nonneg _ (by decide))]; rfl
  rw [BitVec.toNat_and, h1, Nat.and_one_is_mod, IntKind.wrap_i64]
  omega
/-- n divided by 2^by to the nearest, halves upwards. -/
def rnd (n : Int) (by_ : Nat) : Int := if by_ = 0 then n else n / 2 ^ by_ + n / 2 ^ (by_ - 1) % 2
theorem div_bd (n d : Int) (hd : 1 ≤ d) (h0 : -9223372036854775808 ≤ n) (h1 : n < 9223372036854775808) : -9223372036854775808 ≤ n / d ∧ n / d < 9223372036854775808 := by
  constructor
  · rw [Int.le_ediv_iff_mul_le (by omega)]
    have : (-9223372036854775808 : Int) * d ≤ -9223372036854775808 * 1 := Int.mul_le_mul_of_nonpos_left (by decide) hd
    omega
  · rw [Int.ediv_lt_iff_lt_mul (by omega)]
    have : (9223372036854775808 : Int) * 1 ≤ 9223372036854775808 * d := Int.mul_le_mul_of_nonneg_left hd (by decide)
    omega
theorem div2_bd (n d : Int) (hd : 2 ≤ d) (h0 : -9223372036854775808 ≤ n) (h1 : n < 9223372036854775808) : -4611686018427387904 ≤ n / d ∧ n / d < 4611686018427387904 := by
  constructor
  · rw [Int.le_ediv_iff_mul_le (by omega)]
    have : (-4611686018427387904 : Int) * d ≤ -4611686018427387904 * 2 := Int.mul_le_mul_of_nonpos_left (by decide) hd
    omega
  · rw [Int.ediv_lt_iff_lt_mul (by omega)]
    have : (4611686018427387904 : Int) * 2 ≤ 4611686018427387904 * d := Int.mul_le_mul_of_nonneg_left hd (by decide)
    omega
theorem rnd_bd (n : Int) (b : Nat) (h0 : -9223372036854775808 ≤ n) (h1 : n < 9223372036854775808) : -9223372036854775808 ≤ rnd n b ∧ rnd n b < 9223372036854775808 := by
  unfold rnd
  by_cases hb : b = 0
  · rw [if_pos hb]; exact ⟨h0, h1⟩
  · rw [if_neg hb]
    obtain ⟨c, rfl⟩ : ∃ c, b = c + 1 := ⟨b - 1, by omega⟩
    have := div2_bd n (2 ^ (c + 1)) (by rw [pw_succ]; have := pw_pos c; omega) h0 h1
    omega
/-- The least number of so many bits, from 1 to 64. -/
def least (w : Nat) : Int := -2 ^ (w - 1)
/-- n held to w bits; 0, if there are no such bits. -/
def sat (n w : Int) : Int := if w < 1 ∨ 64 < w then 0 else if n < least w.toNat then least w.toNat else if n > -(least w.toNat + 1) then -(least w.toNat + 1) else n
theorem least_bd {w : Nat} (h0 : 1 ≤ w) (h1 : w ≤ 64) : -9223372036854775808 ≤ least w ∧ least w ≤ -1 := by
  unfold least
  have := pw_pos (w - 1)
  have : (2 : Int) ^ (w - 1) ≤ 2 ^ 63 := pw_le (by omega)
  omega
theorem sat_bd (n w : Int) (h0 : -9223372036854775808 ≤ n) (h1 : n < 9223372036854775808) : -9223372036854775808 ≤ sat n w ∧ sat n w < 9223372036854775808 := by
  unfold sat
  by_cases h : w < 1 ∨ 64 < w
  · rw [if_pos h]; omega
  · rw [if_neg h]
    have := least_bd (w := w.toNat) (by omega) (by omega)
    split
    · omega
    · split <;> omega

def TABL : ByteArray := ⟨#[0, 1, 2, 2, 3, 3, 3, 3, 4, 4, 4, 4, 4, 4, 4, 4, 5, 5, 5, 5, 5, 5, 5, 5, 5, 5, 5, 5, 5, 5, 5, 5, 6, 6, 6, 6, 6, 6, 6, 6, 6, 6, 6, 6, 6, 6, 6, 6, 6, 6, 6, 6, 6, 6, 6, 6, 6, 6, 6, 6, 6, 6, 6, 6, 7, 7, 7, 7, 7, 7, 7, 7, 7, 7, 7, 7, 7, 7, 7, 7, 7, 7, 7, 7, 7, 7, 7, 7, 7, 7, 7, 7, 7, 7, 7, 7, 7, 7, 7, 7, 7, 7, 7, 7, 7, 7, 7, 7, 7, 7, 7, 7, 7, 7, 7, 7, 7, 7, 7, 7, 7, 7, 7, 7, 7, 7, 7, 7, 8, 8, 8, 8, 8, 8, 8, 8, 8, 8, 8, 8, 8, 8, 8, 8, 8, 8, 8, 8, 8, 8, 8, 8, 8, 8, 8, 8, 8, 8, 8, 8, 8, 8, 8, 8, 8, 8, 8, 8, 8, 8, 8, 8, 8, 8, 8, 8, 8, 8, 8, 8, 8, 8, 8, 8, 8, 8, 8, 8, 8, 8, 8, 8, 8, 8, 8, 8, 8, 8, 8, 8, 8, 8, 8, 8, 8, 8, 8, 8, 8, 8, 8, 8, 8, 8, 8, 8, 8, 8, 8, 8, 8, 8, 8, 8, 8, 8, 8, 8, 8, 8, 8, 8, 8, 8, 8, 8, 8, 8, 8, 8, 8, 8, 8, 8, 8, 8, 8, 8, 8, 8, 8, 8, 8, 8, 8, 8]⟩
/-- How many bits a number has. -/
def blen (n : Int) : Int := if n ≤ 0 then 0 else (n.toNat.log2 : Int) + 1
theorem TABL_all : ∀ i : Fin 256, bt TABL (i.val : Int) = blen (i.val : Int) := by decide +kernel
theorem TABL_eq (x : Int) (h0 : 0 ≤ x) (h1 : x < 256) : bt TABL x = blen x := by
  have := TABL_all ⟨x.toNat, by omega⟩
  simpa [Int.toNat_of_nonneg h0] using this
theorem blen_small {x : Int} (h0 : 0 ≤ x) (h1 : x < 256) : 0 ≤ blen x ∧ blen x ≤ 8 := by
  unfold blen
  split
  · omega
  · have := (Nat.log2_lt (n := x.toNat) (k := 8) (by omega)).2 (by omega)
    omega
theorem blen_div (x : Int) (j : Nat) (h : (2 : Int) ^ j ≤ x) : blen x = j + blen (x / 2 ^ j) := by
  have hp := pw_pos j
  have hx : 1 ≤ x / 2 ^ j := by rw [Int.le_ediv_iff_mul_le hp]; omega
  unfold blen
  rw [if_neg (by omega), if_neg (by omega)]
  obtain ⟨n, rfl⟩ := Int.eq_ofNat_of_zero_le (show 0 ≤ x by omega)
  have e : ((n : Int) / 2 ^ j).toNat = n / 2 ^ j := by
    rw [show ((2 : Int) ^ j) = ((2 ^ j : Nat) : Int) from by rw [Int.natCast_pow]; rfl, ← Int.natCast_ediv, Int.toNat_natCast]
  have hn : n / 2 ^ j ≠ 0 := by
    intro h0
    rw [← e] at h0
    omega
  rw [e, Int.toNat_natCast]
  have k1 := Nat.log2_self_le hn
  have k2 := Nat.lt_log2_self (n := n / 2 ^ j)
  have : n.log2 = j + (n / 2 ^ j).log2 := by
    rw [Nat.log2_eq_iff (by omega)]
    constructor
    · rw [Nat.pow_add, Nat.mul_comm]
      exact (Nat.le_div_iff_mul_le (Nat.two_pow_pos j)).1 k1
    · rw [show j + (n / 2 ^ j).log2 + 1 = ((n / 2 ^ j).log2 + 1) + j from by omega, Nat.pow_add]
      exact (Nat.div_lt_iff_lt_mul (Nat.two_pow_pos j)).1 k2
  omega
theorem blen_lt {x : Int} (h0 : 0 ≤ x) : x < 2 ^ (blen x).toNat := by
  unfold blen
  split
  · rw [show x = 0 from by omega]; decide
  · obtain ⟨n, rfl⟩ := Int.eq_ofNat_of_zero_le h0
    rw [show (((n : Int).toNat.log2 : Int) + 1).toNat = n.log2 + 1 from by rw [Int.toNat_natCast]; omega]
    have := Nat.lt_log2_self (n := n)
    rw [show ((2 : Int) ^ (n.log2 + 1)) = ((2 ^ (n.log2 + 1) : Nat) : Int) from by rw [Int.natCast_pow]; rfl]
    omega
theorem blen_ge {x : Int} (h : 1 ≤ x) : 1 ≤ blen x ∧ 2 ^ ((blen x).toNat - 1) ≤ x := by
  unfold blen
  rw [if_neg (by omega)]
  obtain ⟨n, rfl⟩ := Int.eq_ofNat_of_zero_le (show 0 ≤ x by omega)
  refine ⟨by omega, ?_⟩
  rw [show (((n : Int).toNat.log2 : Int) + 1).toNat - 1 = n.log2 from by rw [Int.toNat_natCast]; omega]
  have := Nat.log2_self_le (n := n) (by omega)
  rw [show ((2 : Int) ^ n.log2) = ((2 ^ n.log2 : Nat) : Int) from by rw [Int.natCast_pow]; rfl]
  omega
theorem blen_le {x : Int} {j : Nat} (h0 : 0 ≤ x) (h : x < 2 ^ j) : 0 ≤ blen x ∧ blen x ≤ j := by
  unfold blen
  split
  · omega
  · obtain ⟨n, rfl⟩ := Int.eq_ofNat_of_zero_le h0
    rw [Int.toNat_natCast]
    have : n.log2 < j := (Nat.log2_lt (by omega)).2 (by rw [show ((2 : Int) ^ j) = ((2 ^ j : Nat) : Int) from by rw [Int.natCast_pow]; rfl] at h; omega)
    omega

theorem len64_j_eq (k : Nat) (x0 x2 : Int) : bits_Len64.j0 (k + 1) x0 x2 = (if x0 ≥ 65536 then (if (x0 / 65536) ≥ 256 then (if 0 ≤ (((x0 / 65536) / 256) % 256) then (if (((x0 / 65536) / 256) % 256) < 256 then (some (wrap64 ((wrap64 ((wrap64 (x2 + 16)) + 8)) + (wrap64 (bt TABL (((x0 / 65536) / 256) % 256)))))) else (none)) else (none)) else (if 0 ≤ ((x0 / 65536) % 256) then (if ((x0 / 65536) % 256) < 256 then (some (wrap64 ((wrap64 (x2 + 16)) + (wrap64 (bt TABL ((x0 / 65536) % 256)))))) else (none)) else (none))) else (if x0 ≥ 256 then (if 0 ≤ ((x0 / 256) % 256) then (if ((x0 / 256) % 256) < 256 then (some (wrap64 ((wrap64 (x2 + 8)) + (wrap64 (bt TABL ((x0 / 256) % 256)))))) else (none)) else (none)) else (if 0 ≤ ((x0) % 256) then (if ((x0) % 256) < 256 then (some (wrap64 (x2 + (wrap64 (bt TABL ((x0) % 256)))))) else (none)) else (none)))) := rfl
theorem len64_j (k : Nat) (x s : Int) (h0 : 0 ≤ x) (h1 : x < 4294967296) (s0 : 0 ≤ s) (s1 : s ≤ 32) : bits_Len64.j0 (k + 1) x s = some (s + blen x) := by
  have core : ∀ y t : Int, 0 ≤ y → y < 256 → 0 ≤ t → t ≤ 56 → (if 0 ≤ y % 256 then (if y % 256 < 256 then some (wrap64 (t + wrap64 (bt TABL (y % 256)))) else none) else none) = some (t + blen y) := by
    intro y t hy0 hy1 ht0 ht1
    have hb := blen_small hy0 hy1
    rw [if_pos (by omega), if_pos (by omega), show y % 256 = y from by omega, TABL_eq y hy0 hy1, w64 (x := blen y) (by omega) (by omega), w64 (by omega) (by omega)]
  rw [len64_j_eq]
  by_cases ha : x ≥ 65536
  · rw [if_pos ha]
    have d1 := blen_div x 16 (by omega)
    rw [show ((2 : Int) ^ 16) = 65536 from by decide] at d1
    by_cases hb : x / 65536 ≥ 256
    · rw [if_pos hb, w64 (x := s + 16) (by omega) (by omega), w64 (x := s + 16 + 8) (by omega) (by omega)]
      have d2 := blen_div (x / 65536) 8 (by omega)
      rw [show ((2 : Int) ^ 8) = 256 from by decide] at d2
      refine (core (x / 65536 / 256) (s + 16 + 8) (by omega) (by omega) (by omega) (by omega)).trans ?_
      congr 1; omega
    · rw [if_neg hb, w64 (x := s + 16) (by omega) (by omega)]
      refine (core (x / 65536) (s + 16) (by omega) (by omega) (by omega) (by omega)).trans ?_
      congr 1; omega
  · rw [if_neg ha]
    by_cases hb : x ≥ 256
    · rw [if_pos hb, w64 (x := s + 8) (by omega) (by omega)]
      have d2 := blen_div x 8 (by omega)
      rw [show ((2 : Int) ^ 8) = 256 from by decide] at d2
      refine (core (x / 256) (s + 8) (by omega) (by omega) (by omega) (by omega)).trans ?_
      congr 1; omega
    · rw [if_neg hb]
      exact core x s h0 (by omega) s0 (by omega)
theorem len64 (k : Nat) (x : Int) (h0 : 0 ≤ x) (h1 : x < 18446744073709551616) : bits_Len64.f (k + 1) x = some (blen x) := by
  unfold bits_Len64.f
  by_cases ha : x ≥ 4294967296
  · rw [if_pos ha, len64_j k _ _ (by omega) (by omega) (by omega) (by omega)]
    have d := blen_div x 32 (by omega)
    rw [show ((2 : Int) ^ 32) = 4294967296 from by decide] at d
    congr 1; omega
  · rw [if_neg ha, len64_j k _ _ h0 (by omega) (by omega) (by omega)]
    congr 1; omega

theorem or_u64 (q : Nat) (i : Nat) (h : 2 ^ (i + 1) * q + 2 ^ i < 18446744073709551616) : Go.bits .or .u64 ((2 ^ (i + 1) * q : Nat) : Int) ((2 ^ i : Nat) : Int) = ((2 ^ (i + 1) * q + 2 ^ i : Nat) : Int) := by
  rw [u64_or_nat _ _ (Nat.lt_of_le_of_lt (Nat.le_add_right _ _) h) (Nat.lt_of_le_of_lt (Nat.le_add_left _ _) h)]
  have hlt : 2 ^ i < 2 ^ (i + 1) := by rw [Nat.pow_succ]; have := Nat.two_pow_pos i; omega
  rw [Nat.two_pow_add_eq_or_of_lt hlt]
theorem sq_le {a b : Int} (h0 : 0 ≤ a) (h : a ≤ b) : a * a ≤ b * b := Int.mul_le_mul h h h0 (by omega)
theorem sq_lt {a b : Int} (h0 : 0 ≤ a) (h : a < b) : a * a < b * b := by
  have h1 : a * a ≤ a * b := Int.mul_le_mul_of_nonneg_left (by omega) h0
  have h2 : a * b < b * b := Int.mul_lt_mul_of_pos_right h (by omega)
  omega
theorem lt_of_sq {a b : Int} (h0 : 0 ≤ b) (h : a * a < b * b) : a < b := by
  by_cases hab : a < b
  · exact hab
  · have := sq_le h0 (show b ≤ a by omega)
    omega
/-- From the place i on, with the bits above it told: the root. -/
theorem root_l (d : Nat) : ∀ (k : Nat) (n i : Int) (r : Int), 0 ≤ n → n < 18446744073709551616 → -1 ≤ i → i ≤ 32 → i + 1 = d → d < k → 0 ≤ r → r < 4294967296 → (∃ q : Nat, r = ((2 ^ (i + 1).toNat * q : Nat) : Int)) →
    r * r ≤ n → n < (r + 2 ^ (i + 1).toNat) * (r + 2 ^ (i + 1).toNat) → ∃ s, arith_Root.l0 k n r i = some s ∧ 0 ≤ s ∧ s < 4294967296 ∧ s * s ≤ n ∧ n < (s + 1) * (s + 1) := by
  induction d with
  | zero =>
    intro k n i r n0 n1 h0 h1 hd hk r0 r1 hq hl hu
    obtain ⟨k, rfl⟩ : ∃ m, k = m + 1 := ⟨k - 1, by omega⟩
    obtain rfl : i = -1 := by omega
    simp only [arith_Root.l0]
    rw [if_neg (by omega), show r % 4294967296 = r from by omega]
    exact ⟨r, rfl, r0, r1, hl, by simpa using hu⟩
  | succ d ih =>
    intro k n i r n0 n1 h0 h1 hd hk r0 r1 hq hl hu
    obtain ⟨k, rfl⟩ : ∃ m, k = m + 1 := ⟨k - 1, by omega⟩
    obtain ⟨j, rfl⟩ := Int.eq_ofNat_of_zero_le (show 0 ≤ i by omega)
    obtain ⟨q, rfl⟩ := hq
    rw [show ((j : Int) + 1).toNat = j + 1 from by omega] at *
    have ej : ((j : Int) - 1 + 1).toNat = j := by omega
    simp only [arith_Root.l0]
    rw [if_pos (by omega), if_pos (by omega), w64 (x := (j : Int) - 1) (by omega) (by omega)]
    have hp := Nat.two_pow_pos j
    have hp32 : 2 ^ j ≤ 2 ^ 32 := Nat.pow_le_pow_right (by decide) (by omega)
    have es : shl .u64 1 (j : Int) = ((2 ^ j : Nat) : Int) := by
      unfold shl
      rw [Int.toNat_natCast, Nat.min_eq_left (by show j ≤ 64; omega), Int.one_mul, IntKind.wrap_u64, Int.natCast_pow]
      have h2 : ((2 ^ j : Nat) : Int) = 2 ^ j := by rw [Int.natCast_pow]; rfl
      show (2 : Int) ^ j % 18446744073709551616 = 2 ^ j
      omega
    have hlo : 2 ^ (j + 1) * q < 4294967296 := Int.ofNat_lt.1 r1
    rw [es, or_u64 q j (by generalize 2 ^ (j + 1) * q = m at *; omega)]
    have e2 : ((2 : Int) ^ (j + 1)) = ((2 ^ (j + 1) : Nat) : Int) := by rw [Int.natCast_pow]; rfl
    have e1 : ((2 : Int) ^ j) = ((2 ^ j : Nat) : Int) := by rw [Int.natCast_pow]; rfl
    have ep : 2 ^ (j + 1) = 2 ^ j + 2 ^ j := by rw [Nat.pow_succ]; omega
    have hmul : 2 ^ (j + 1) * q = 2 ^ j * (2 * q) := by rw [Nat.pow_succ, Nat.mul_assoc]
    rw [e2] at hu
    have key : ∀ x : Int, x = ((2 ^ (j + 1) * q + 2 ^ j : Nat) : Int) → (¬ (x < 4294967296 ∧ x * x ≤ n) → ∃ s, arith_Root.l0 k n ((2 ^ (j + 1) * q : Nat) : Int) ((j : Int) - 1) = some s ∧ 0 ≤ s ∧ s < 4294967296 ∧ s * s ≤ n ∧ n < (s + 1) * (s + 1)) := by
      intro x hx hno
      have hux : n < x * x := by
        by_cases hx1 : x < 4294967296
        · omega
        · have := sq_le (a := 4294967296) (b := x) (by omega) (by omega)
          omega
      refine ih k n ((j : Int) - 1) _ n0 n1 (by omega) (by omega) (by omega) (by omega) r0 r1 ⟨2 * q, by rw [ej, hmul]⟩ hl ?_
      rw [ej, e1, ← Int.natCast_add, ← hx]
      exact hux
    generalize hx : ((2 ^ (j + 1) * q + 2 ^ j : Nat) : Int) = x
    by_cases hx1 : x < 4294967296
    · rw [if_pos hx1]
      have hxx : x * x < 18446744073709551616 := by
        have := sq_le (a := x) (b := 4294967295) (by omega) (by omega)
        omega
      have hxx0 : 0 ≤ x * x := Int.mul_nonneg (by omega) (by omega)
      rw [IntKind.wrap_u64, show x * x % 18446744073709551616 = x * x from by omega]
      by_cases hx2 : x * x ≤ n
      · rw [if_pos hx2]
        refine ih k n ((j : Int) - 1) x n0 n1 (by omega) (by omega) (by omega) (by omega) (by omega) hx1 ⟨2 * q + 1, by rw [ej, ← hx, hmul, Nat.mul_add, Nat.mul_one]⟩ hx2 ?_
        rw [ej, e1]
        rw [show x + ((2 ^ j : Nat) : Int) = ((2 ^ (j + 1) * q : Nat) : Int) + ((2 ^ (j + 1) : Nat) : Int) from by rw [← hx, ep]; omega]
        exact hu
      · rw [if_neg hx2]
        exact key x hx.symm (by omega)
    · rw [if_neg hx1]
      exact key x hx.symm (by omega)
theorem root_eq (k : Nat) (hk : 34 ≤ k) (n : Int) (h0 : 0 ≤ n) (h1 : n < 18446744073709551616) :
    ∃ s, arith_Root.f k n = some s ∧ 0 ≤ s ∧ s < 4294967296 ∧ s * s ≤ n ∧ n < (s + 1) * (s + 1) := by
  obtain ⟨k, rfl⟩ : ∃ m, k = m + 1 := ⟨k - 1, by omega⟩
  have hb := blen_le (j := 64) h0 (by omega)
  have hlt := blen_lt h0
  unfold arith_Root.f
  rw [len64 k n h0 h1]
  simp only [Option.bind_some]
  rw [w64 (x := blen n + 1) (by omega) (by omega), Int.tdiv_eq_ediv_of_nonneg (by omega), w64 (x := (blen n + 1) / 2) (by omega) (by omega)]
  refine root_l (((blen n + 1) / 2 + 1).toNat) (k + 1) n ((blen n + 1) / 2) 0 h0 h1 (by omega) (by omega) (by omega) (by omega) (by omega) (by omega) ⟨0, by simp⟩ (by omega) ?_
  rw [Int.zero_add, ← Int.pow_add]
  have := pw_le (a := (blen n).toNat) (b := ((blen n + 1) / 2 + 1).toNat + ((blen n + 1) / 2 + 1).toNat) (by omega)
  omega
theorem root_sq (k : Nat) (hk : 34 ≤ k) (r : Int) (h0 : 0 ≤ r) (h1 : r < 4294967296) : arith_Root.f k (r * r) = some r := by
  have hm : r * r < 18446744073709551616 := by
    have := sq_le (a := r) (b := 4294967295) h0 (by omega)
    omega
  obtain ⟨s, e, s0, s1, sl, su⟩ := root_eq k hk (r * r) (Int.mul_nonneg h0 h0) hm
  rw [e]
  congr 1
  have a1 : s < r + 1 := lt_of_sq (by omega) (by have := sq_lt h0 (show r < r + 1 by omega); omega)
  have a2 : r < s + 1 := lt_of_sq (by omega) su
  omega

theorem lives_k (k : Nat) (hk : 40 ≤ k) : sidebandlaw01_lives.f k = some true :=
  at_rounds (g := fun k => sidebandlaw01_lives.f k) (fun k => sidebandlaw01_lives.mono k) hk (by decide +kernel)

theorem ArithRoots : sidebandlaw01_ArithRoots.Pure := by
  intro n r hn hr
  obtain ⟨n0, n1⟩ := wf_u64 hn
  obtain ⟨r0, r1⟩ := wf_u32 hr
  refine ⟨100, ?_⟩
  unfold sidebandlaw01_ArithRoots.f
  rw [lives_k _ (by omega)]
  obtain ⟨s, e, s0, s1, sl, su⟩ := root_eq 100 (by omega) n n0 n1
  have hr2 : r * r < 18446744073709551616 := by
    have := sq_le (a := r) (b := 4294967295) r0 (by omega)
    omega
  have hr3 : 0 ≤ r * r := Int.mul_nonneg r0 r0
  have hs2 : s * s < 18446744073709551616 := by omega
  have hs3 : 0 ≤ s * s := Int.mul_nonneg s0 s0
  have es := root_sq 100 (by omega) r r0 r1
  simp only [Option.bind_some, if_true, e, IntKind.wrap_u64]
  rw [show r % 18446744073709551616 = r from by omega, show r * r % 18446744073709551616 = r * r from by omega, es, show s % 18446744073709551616 = s from by omega, show s * s % 18446744073709551616 = s * s from by omega, if_neg (by omega)]
  simp only [Option.bind_some, beq_self_eq_true]
  by_cases hs : s < 4294967295
  · have := sq_le (a := s + 1) (b := 4294967295) (by omega) (by omega)
    have : 0 ≤ (s + 1) * (s + 1) := Int.mul_nonneg (by omega) (by omega)
    rw [if_pos hs, show (s + 1) % 18446744073709551616 = s + 1 from by omega, show (s + 1) * (s + 1) % 18446744073709551616 = (s + 1) * (s + 1) from by omega, if_neg (by omega)]
  · rw [if_neg hs]

end Go.Proofs.Ytoooienmcogbhaa.Pure
