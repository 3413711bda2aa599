/-
  QuantNear: lines below their ceilings are heard near, whatever the numbers; no condition but the law own guards.
-/
import Derived.Test.YtlbjoflmfboeeaaPQuantNearx6
set_option linter.unusedVariables false
set_option linter.unusedSimpArgs false
namespace Go.Proofs.Ytlbjoflmfboeeaa.Pure
open Go.RowKit Go.Proofs.Ytlbjoflmfboeeaa.PQuantNear Go.Proofs.YtlbjoflmfboeeaaW.PrintWords Go.Proofs.YtlbjoflmfboeeaaW.PrintLast Go.Proofs.YtlbjoflmfboeeaaW.PrintMore

theorem w64 {x : Int} (h0 : -9223372036854775808 ≤ x) (h1 : x < 9223372036854775808) : wrap64 x = x := by unfold wrap64; omega
theorem w32 {x : Int} (h0 : -2147483648 ≤ x) (h1 : x < 2147483648) : wrap32 x = x := by unfold wrap32; omega
theorem wf_i64 {x : Int} (h : (Lit.int .i64 x).wf = true) : -9223372036854775808 ≤ x ∧ x < 9223372036854775808 := by
  simp [Lit.wf, IntKind.min, IntKind.max, IntKind.signed, IntKind.bits] at h; omega
theorem wf_i32 {x : Int} (h : (Lit.int .i32 x).wf = true) : -2147483648 ≤ x ∧ x < 2147483648 := by
  simp [Lit.wf, IntKind.min, IntKind.max, IntKind.signed, IntKind.bits] at h; omega
theorem wf_u64 {x : Int} (h : (Lit.int .u64 x).wf = true) : 0 ≤ x ∧ x < 18446744073709551616 := by
  simp [Lit.wf, IntKind.min, IntKind.max, IntKind.signed, IntKind.bits] at h; omega
theorem wf_u32 {x : Int} (h : (Lit.int .u32 x).wf = true) : 0 ≤ x ∧ x < 4294967296 := by
  simp [Lit.wf, IntKind.min, IntKind.max, IntKind.signed, IntKind.bits] at h; omega
/-- Powers of two as whole numbers: the greatest that are asked. -/
theorem pw_pos (n : Nat) : (0 : Int) < 2 ^ n := Int.pow_pos (by omega)
theorem pw_succ (n : Nat) : (2 : Int) ^ (n + 1) = 2 * 2 ^ n := by rw [Int.pow_succ]; omega
theorem pw_le {a b : Nat} (h : a ≤ b) : (2 : Int) ^ a ≤ 2 ^ b := by
  induction h with
  | refl => exact Int.le_refl _
  | step _ ih => rw [pw_succ]; have := pw_pos a; omega
theorem pw62 {n : Nat} (h : n ≤ 62) : (2 : Int) ^ n ≤ 4611686018427387904 := pw_le (a := n) (b := 62) h
theorem and_one_i64 (x : Int) : Go.bits .and .i64 x 1 = x % 2 := by
  show IntKind.i64.wrap ((BitVec.ofInt 64 x &&& BitVec.ofInt 64 1).toNat : Int) = _
  have h1 : (BitVec.ofInt 64 1).toNat = 1 := by decide
  have h2 : ((BitVec.ofInt 64 x).toNat : Int) = x % 18446744073709551616 := by
    rw [BitVec.toNat_ofInt, Int.toNat_of_nonneg (Int.emod_nonneg _ (by decide))]; rfl
  rw [BitVec.toNat_and, h1, Nat.and_one_is_mod, IntKind.wrap_i64]
  omega
/-- n divided by 2^by to the nearest, halves upwards. -/
def rnd (n : Int) (by_ : Nat) : Int := if by_ = 0 then n else n / 2 ^ by_ + n / 2 ^ (by_ - 1) % 2
theorem div_bd (n d : Int) (hd : 1 ≤ d) (h0 : -9223372036854775808 ≤ n) (h1 : n < 9223372036854775808) : -9223372036854775808 ≤ n / d ∧ n / d < 9223372036854775808 := by
  constructor
  · rw [Int.le_ediv_iff_mul_le (by omega)]
    have : (-9223372036854775808 : Int) * d ≤ -9223372036854775808 * 1 := Int.mul_le_mul_of_nonpos_left (by decide) hd
    omega
  · rw [Int.ediv_lt_iff_lt_mul (by omega)]
    have : (9223372036854775808 : Int) * 1 ≤ 9223372036854775808 * d := Int.mul_le_mul_of_nonneg_left hd (by decide)
    omega
theorem div2_bd (n d : Int) (hd : 2 ≤ d) (h0 : -9223372036854775808 ≤ n) (h1 : n < 9223372036854775808) : -4611686018427387904 ≤ n / d ∧ n / d < 4611686018427387904 := by
  constructor
  · rw [Int.le_ediv_iff_mul_le (by omega)]
    have : (-4611686018427387904 : Int) * d ≤ -4611686018427387904 * 2 := Int.mul_le_mul_of_nonpos_left (by decide) hd
    omega
  · rw [Int.ediv_lt_iff_lt_mul (by omega)]
    have : (4611686018427387904 : Int) * 2 ≤ 4611686018427387904 * d := Int.mul_le_mul_of_nonneg_left hd (by decide)
    omega
theorem rnd_bd (n : Int) (b : Nat) (h0 : -9223372036854775808 ≤ n) (h1 : n < 9223372036854775808) : -9223372036854775808 ≤ rnd n b ∧ rnd n b < 9223372036854775808 := by
  unfold rnd
  by_cases hb : b = 0
  · rw [if_pos hb]; exact ⟨h0, h1⟩
  · rw [if_neg hb]
    obtain ⟨c, rfl⟩ : ∃ c, b = c + 1 := ⟨b - 1, by omega⟩
    have := div2_bd n (2 ^ (c + 1)) (by rw [pw_succ]; have := pw_pos c; omega) h0 h1
    omega
/-- The least number of so many bits, from 1 to 64. -/
def least (w : Nat) : Int := -2 ^ (w - 1)
/-- n held to w bits; 0, if there are no such bits. -/
def sat (n w : Int) : Int := if w < 1 ∨ 64 < w then 0 else if n < least w.toNat then least w.toNat else if n > -(least w.toNat + 1) then -(least w.toNat + 1) else n
theorem least_bd {w : Nat} (h0 : 1 ≤ w) (h1 : w ≤ 64) : -9223372036854775808 ≤ least w ∧ least w ≤ -1 := by
  unfold least
  have := pw_pos (w - 1)
  have : (2 : Int) ^ (w - 1) ≤ 2 ^ 63 := pw_le (by omega)
  omega
theorem sat_bd (n w : Int) (h0 : -9223372036854775808 ≤ n) (h1 : n < 9223372036854775808) : -9223372036854775808 ≤ sat n w ∧ sat n w < 9223372036854775808 := by
  unfold sat
  by_cases h : w < 1 ∨ 64 < w
  · rw [if_pos h]; omega
  · rw [if_neg h]
    have := least_bd (w := w.toNat) (by omega) (by omega)
    split
    · omega
    · split <;> omega

theorem arith_Round_eq (k : Nat) (n b : Int) (h0 : -9223372036854775808 ≤ n) (h1 : n < 9223372036854775808) (hb0 : 0 ≤ b) (hb1 : b ≤ 62) :
    arith_Round.f (k + 1) n b = some (rnd n b.toNat) := by
  obtain ⟨b, rfl⟩ := Int.eq_ofNat_of_zero_le hb0
  simp only [arith_Round.f, arith_Round.j0]
  rw [if_neg (by omega), if_neg (by simp; omega), Int.toNat_natCast]
  unfold rnd
  by_cases hz : b = 0
  · subst hz; rfl
  · rw [if_neg (by omega), if_pos (by omega), w64 (by omega) (by omega), if_pos (by omega), if_neg hz]
    rw [and_one_i64]
    have e1 : shr .i64 n (b : Int) = n / 2 ^ b := by unfold shr; rw [Int.toNat_natCast, Nat.min_eq_left (by show b ≤ 64; omega)]
    have e2 : shr .i64 n ((b : Int) - 1) = n / 2 ^ (b - 1) := by
      unfold shr; rw [show ((b : Int) - 1).toNat = b - 1 from by omega, Nat.min_eq_left (by show b - 1 ≤ 64; omega)]
    rw [e1, e2]
    have := rnd_bd n b h0 h1
    unfold rnd at this
    rw [if_neg hz] at this
    rw [w64 this.1 (by omega)]
theorem arith_Round_no (k : Nat) (n b : Int) (hb : b < 0 ∨ 62 < b) : arith_Round.f (k + 1) n b = some 0 := by
  simp only [arith_Round.f, arith_Round.j0]
  by_cases h : b < 0
  · rw [if_pos h]; rfl
  · rw [if_neg h, if_pos (by simp; omega)]

theorem rd_nat (l : List Int) (i : Nat) (h : i < l.length) : rd l (i : Int) = l[i] := by
  unfold rd
  rw [Int.toNat_natCast, List.getD_eq_getElem?_getD, List.getElem?_eq_getElem h]; rfl
theorem rd_all {l : List Int} {p : Int → Prop} (h : ∀ x ∈ l, p x) (i : Nat) (hi : i < l.length) : p (rd l (i : Int)) := by
  rw [rd_nat l i hi]; exact h _ (List.getElem_mem hi)
theorem rd_put (l : List Int) (i j : Nat) (v : Int) (hi : i < l.length) : rd (l.set i v) (j : Int) = if i = j then v else rd l (j : Int) := by
  unfold rd
  rw [Int.toNat_natCast, List.getD_eq_getElem?_getD, List.getD_eq_getElem?_getD, List.getElem?_set]
  by_cases h : i = j
  · subst h; rw [if_pos rfl, if_pos rfl, if_pos hi]; rfl
  · rw [if_neg h, if_neg h]
theorem rd_zeros (n i : Nat) (h : i < n) : rd (List.replicate n (0 : Int)) (i : Int) = 0 := by
  rw [rd_nat _ i (by simpa using h)]; simp
theorem pw_add (a b : Nat) : (2 : Int) ^ (a + b) = 2 ^ a * 2 ^ b := Int.pow_add 2 a b
theorem pw26 {n : Nat} (h : n ≤ 26) : (2 : Int) ^ n ≤ 67108864 := pw_le (a := n) (b := 26) h
theorem shl_i64 (x : Int) (n : Nat) (hn : n ≤ 64) (h0 : -9223372036854775808 ≤ x * 2 ^ n) (h1 : x * 2 ^ n < 9223372036854775808) : shl .i64 x (n : Int) = x * 2 ^ n := by
  unfold shl
  rw [Int.toNat_natCast, Nat.min_eq_left (by show n ≤ 64; omega), IntKind.wrap_i64]
  omega
theorem shl_i32 (x : Int) (n : Nat) (hn : n ≤ 32) (h0 : -2147483648 ≤ x * 2 ^ n) (h1 : x * 2 ^ n < 2147483648) : shl .i32 x (n : Int) = x * 2 ^ n := by
  unfold shl
  rw [Int.toNat_natCast, Nat.min_eq_left (by show n ≤ 32; omega), show IntKind.i32.wrap (x * 2 ^ n) = wrap32 (x * 2 ^ n) from (by first | rfl | exact (i32_w _)), w32 h0 h1]
/-- Ceilings, or steps, that may be. -/
def Fit (l : List Int) : Prop := l.length = 21 ∧ ∀ i : Nat, i < 21 → 0 ≤ rd l (i : Int) ∧ rd l (i : Int) ≤ 26
theorem right_l (l : List Int) (h : Fit l) (d : Nat) : ∀ (k j : Nat), j + d = 21 → d < k → energy_Right.l0 k l l 21 (j : Int) = some true := by
  obtain ⟨hl, ha⟩ := h
  induction d with
  | zero =>
    intro k j hj hk
    obtain ⟨k, rfl⟩ : ∃ m, k = m + 1 := ⟨k - 1, by omega⟩
    simp only [energy_Right.l0]
    rw [if_neg (by omega), hl]; rfl
  | succ d ih =>
    intro k j hj hk
    obtain ⟨k, rfl⟩ : ∃ m, k = m + 1 := ⟨k - 1, by omega⟩
    have hb := ha j (by omega)
    simp only [energy_Right.l0]
    rw [if_pos (by omega), if_pos (by omega), if_pos (by rw [hl]; omega), if_neg (by omega), if_neg (by omega), w64 (x := (j : Int) + 1) (by omega) (by omega)]
    exact ih k (j + 1) (by omega) (by omega)
theorem right_t (k : Nat) (l : List Int) (h : Fit l) (hk : 21 < k) : energy_Right.f k l = some true := by
  unfold energy_Right.f
  rw [h.1]
  exact right_l l h 21 k 0 (by omega) (by omega)
theorem qright_l (c s : List Int) (hc : Fit c) (hs : Fit s) (hcs : ∀ i : Nat, i < 21 → rd c (i : Int) - rd s (i : Int) ≤ 12) (d : Nat) : ∀ (k j : Nat), j + d = 21 → d < k → quant_right.l0 k s c 21 (j : Int) = some true := by
  induction d with
  | zero =>
    intro k j hj hk
    obtain ⟨k, rfl⟩ : ∃ m, k = m + 1 := ⟨k - 1, by omega⟩
    simp only [quant_right.l0]
    rw [if_neg (by omega)]
  | succ d ih =>
    intro k j hj hk
    obtain ⟨k, rfl⟩ : ∃ m, k = m + 1 := ⟨k - 1, by omega⟩
    have hb := hc.2 j (by omega)
    have hb2 := hs.2 j (by omega)
    have hb3 := hcs j (by omega)
    simp only [quant_right.l0]
    rw [if_pos (by omega), if_pos (by omega), if_pos (by rw [hc.1]; omega), if_pos (by rw [hs.1]; omega), w64 (x := rd c (j : Int) - rd s (j : Int)) (by omega) (by omega), if_neg (by omega), w64 (x := (j : Int) + 1) (by omega) (by omega)]
    exact ih k (j + 1) (by omega) (by omega)
theorem qright_t (k : Nat) (c s : List Int) (hc : Fit c) (hs : Fit s) (hcs : ∀ i : Nat, i < 21 → rd c (i : Int) - rd s (i : Int) ≤ 12) (hk : 30 < k) : quant_right.f k c s = some true := by
  obtain ⟨k, rfl⟩ : ∃ m, k = m + 1 := ⟨k - 1, by omega⟩
  unfold quant_right.f
  rw [right_t _ c hc (by omega), Option.bind_some, if_pos rfl, right_t _ s hs (by omega), Option.bind_some]
  simp only [quant_right.j0]
  rw [if_neg (by simp), hc.1]
  exact qright_l c s hc hs hcs 21 k 0 (by omega) (by omega)
/-- What a told line is heard as: a number of steps, held to its bits. -/
def nearv (x : Int) (s w : Nat) : Int := mn (mx (rnd x s) (-(2 ^ w - 1))) (2 ^ w - 1)
theorem near_t (k : Nat) (x : Int) (s w : Nat) (hx : -2147483648 ≤ x ∧ x < 2147483648) (hs : s ≤ 26) (hw : w ≤ 26) : quant_near.f (k + 1) x (s : Int) (w : Int) = some (nearv x s w) := by
  unfold quant_near.f nearv
  have hp := pw_pos w
  have hp2 := pw26 hw
  rw [if_pos (by omega), w64 (x := x) (by omega) (by omega), arith_Round_eq k x (s : Int) (by omega) (by omega) (by omega) (by omega), Option.bind_some, Int.toNat_natCast, shl_i64 1 w (by omega) (by omega) (by omega), Int.one_mul, w64 (x := 2 ^ w - 1) (by omega) (by omega), w64 (by omega) (by omega)]
/-- A step's multiple that is nearest, and no greater than its bits let it be, isn't farther than a step from a line below its ceiling. -/
theorem nearv_bd (x : Int) (s w : Nat) (hx : -(2 ^ (w + s)) < x ∧ x < 2 ^ (w + s)) : nearv x s w * 2 ^ s - x ≤ 2 ^ s ∧ -(2 ^ s) ≤ nearv x s w * 2 ^ s - x ∧ -(2 ^ (w + s)) < nearv x s w * 2 ^ s ∧ nearv x s w * 2 ^ s < 2 ^ (w + s) := by
  have hP := pw_pos s
  have hW := pw_pos w
  have e0 := pw_add w s
  have hr : rnd x s * 2 ^ s - x ≤ 2 ^ s ∧ -(2 ^ s) ≤ rnd x s * 2 ^ s - x := by
    unfold rnd
    by_cases h0 : s = 0
    · subst h0; rw [if_pos rfl]; simp
    · rw [if_neg h0]
      have e1 := Int.emod_add_mul_ediv x (2 ^ s)
      have b0 := Int.emod_nonneg x (show (2 : Int) ^ s ≠ 0 by omega)
      have b1 := Int.emod_lt_of_pos x hP
      have b2 : x / 2 ^ (s - 1) % 2 = 0 ∨ x / 2 ^ (s - 1) % 2 = 1 := by omega
      generalize x / 2 ^ (s - 1) % 2 = b at *
      generalize x % 2 ^ s = r at *
      rw [Int.add_mul, Int.mul_comm (x / 2 ^ s)]
      generalize 2 ^ s * (x / 2 ^ s) = m at *
      rcases b2 with rfl | rfl
      · rw [Int.zero_mul]; omega
      · rw [Int.one_mul]; omega
  have hM : ((2 : Int) ^ w - 1) * 2 ^ s = 2 ^ (w + s) - 2 ^ s := by rw [Int.sub_mul, Int.one_mul, e0]
  have hM2 : (-((2 : Int) ^ w - 1)) * 2 ^ s = -(2 ^ (w + s)) + 2 ^ s := by rw [Int.neg_mul, hM]; omega
  have up : ∀ q : Int, 2 ^ w - 1 < q → 2 ^ (w + s) ≤ q * 2 ^ s := by
    intro q hq
    rw [e0]
    exact Int.mul_le_mul_of_nonneg_right (by omega) (by omega)
  have dn : ∀ q : Int, q < -(2 ^ w - 1) → q * 2 ^ s ≤ -(2 ^ (w + s)) := by
    intro q hq
    rw [e0, ← Int.neg_mul]
    exact Int.mul_le_mul_of_nonneg_right (by omega) (by omega)
  have mid : ∀ q : Int, -(2 ^ w - 1) ≤ q → q ≤ 2 ^ w - 1 → -(2 ^ (w + s)) + 2 ^ s ≤ q * 2 ^ s ∧ q * 2 ^ s ≤ 2 ^ (w + s) - 2 ^ s := by
    intro q h1 h2
    rw [← hM, ← hM2]
    exact ⟨Int.mul_le_mul_of_nonneg_right h1 (by omega), Int.mul_le_mul_of_nonneg_right h2 (by omega)⟩
  have hTP : (2 : Int) ^ s ≤ 2 ^ (w + s) := pw_le (by omega)
  have u1 := up (rnd x s)
  have d1 := dn (rnd x s)
  have m1 := mid (rnd x s)
  unfold nearv mn mx
  by_cases h1 : rnd x s < -(2 ^ w - 1)
  · rw [if_pos h1, if_neg (show ¬ ((2 : Int) ^ w - 1 < -(2 ^ w - 1)) by omega), hM2]
    have := d1 h1
    omega
  · rw [if_neg h1]
    by_cases h2 : 2 ^ w - 1 < rnd x s
    · rw [if_pos h2, hM]
      have := u1 h2
      omega
    · rw [if_neg h2]
      have := m1 (by omega) (by omega)
      omega

theorem wf_u8 {x : Int} (h : (Lit.int .u8 x).wf = true) : 0 ≤ x ∧ x < 256 := by
  simp [Lit.wf, IntKind.min, IntKind.max, IntKind.signed, IntKind.bits] at h; omega
theorem tmod_bd (x p : Int) (h0 : 0 ≤ x) (hp : 0 < p) : 0 ≤ Int.tmod x p ∧ Int.tmod x p < p := by
  rw [Int.tmod_eq_emod_of_nonneg h0]
  exact ⟨Int.emod_nonneg _ (by omega), Int.emod_lt_of_pos _ hp⟩
theorem tmod_lt (x p : Int) (hp : 0 < p) : -p < Int.tmod x p ∧ Int.tmod x p < p := by
  have h := Int.tmod_lt_of_pos x hp
  have h2 := Int.tmod_lt_of_pos (-x) hp
  rw [Int.neg_tmod] at h2
  omega
/-- A plan: ceilings and steps that may be, together. -/
def Plan (c s : List Int) : Prop := c.length = 21 ∧ s.length = 21 ∧ ∀ i : Nat, i < 21 → (0 ≤ rd c (i : Int) ∧ rd c (i : Int) ≤ 26) ∧ (0 ≤ rd s (i : Int) ∧ rd s (i : Int) ≤ 26) ∧ rd c (i : Int) - rd s (i : Int) ≤ 12
theorem plan_put (c s : List Int) (h : Plan c s) (i : Nat) (hi : i < 21) (a b : Int) (ha : 0 ≤ a ∧ a ≤ 26) (hb : 0 ≤ b ∧ b ≤ 26) (hab : a - b ≤ 12) : Plan (c.set i a) (s.set i b) := by
  obtain ⟨h1, h2, h3⟩ := h
  refine ⟨by rw [List.length_set, h1], by rw [List.length_set, h2], fun j hj => ?_⟩
  rw [rd_put c i j a (by omega), rd_put s i j b (by omega)]
  by_cases e : i = j
  · rw [if_pos e, if_pos e]; exact ⟨ha, hb, hab⟩
  · rw [if_neg e, if_neg e]; exact h3 j hj
theorem step_bd (c t : Int) (hc : 0 ≤ c ∧ c ≤ 26) (ht : 0 ≤ t ∧ t < 14) : (0 ≤ mn (mx (mx (wrap64 (c - t)) 0) (wrap64 (c - 12))) 26 ∧ mn (mx (mx (wrap64 (c - t)) 0) (wrap64 (c - 12))) 26 ≤ 26) ∧ c - mn (mx (mx (wrap64 (c - t)) 0) (wrap64 (c - 12))) 26 ≤ 12 := by
  rw [w64 (x := c - t) (by omega) (by omega), w64 (x := c - 12) (by omega) (by omega)]
  unfold mn mx
  split <;> split <;> split <;> omega
theorem plan_l (n : List Int) (hn : n.length ≤ 60) (hb : ∀ x ∈ n, 0 ≤ x ∧ x < 256) (d : Nat) : ∀ (k j : Nat) (c s : List Int), j + d = 21 → d < k → Plan c s → ∃ c' s', sidebandlaw12_plan.l0 k n c s 21 (j : Int) = some (c', s') ∧ Plan c' s' := by
  induction d with
  | zero =>
    intro k j c s hj hk hp
    obtain ⟨k, rfl⟩ : ∃ m, k = m + 1 := ⟨k - 1, by omega⟩
    refine ⟨c, s, ?_, hp⟩
    simp only [sidebandlaw12_plan.l0]
    rw [if_neg (by omega)]
  | succ d ih =>
    intro k j c s hj hk hp
    obtain ⟨k, rfl⟩ : ∃ m, k = m + 1 := ⟨k - 1, by omega⟩
    obtain ⟨h1, h2, h3⟩ := id hp
    simp only [sidebandlaw12_plan.l0]
    rw [if_pos (by omega)]
    by_cases hz : (n.length : Int) > 0
    · obtain ⟨a, ha⟩ : ∃ a : Nat, Int.tmod (j : Int) (n.length : Int) = a := ⟨(Int.tmod (j : Int) (n.length : Int)).toNat, by have := tmod_bd (j : Int) (n.length : Int) (by omega) hz; omega⟩
      obtain ⟨b, hb2⟩ : ∃ b : Nat, Int.tmod ((j : Int) + 1) (n.length : Int) = b := ⟨(Int.tmod ((j : Int) + 1) (n.length : Int)).toNat, by have := tmod_bd ((j : Int) + 1) (n.length : Int) (by omega) hz; omega⟩
      have ba := tmod_bd (j : Int) (n.length : Int) (by omega) hz
      have bb := tmod_bd ((j : Int) + 1) (n.length : Int) (by omega) hz
      have xa := rd_all hb a (by omega)
      have xb := rd_all hb b (by omega)
      rw [if_pos hz, if_neg (by omega), w64 (x := (j : Int) + 1) (by omega) (by omega), ha, hb2, if_pos (by omega), if_pos (by omega), if_pos (by omega), if_pos (by omega), w64 (x := rd n (a : Int)) (by omega) (by omega), w64 (x := rd n (b : Int)) (by omega) (by omega)]
      have ta := tmod_bd (rd n (a : Int)) 27 (by omega) (by omega)
      have tb := tmod_bd (rd n (b : Int)) 14 (by omega) (by omega)
      generalize Int.tmod (rd n (a : Int)) 27 = x at *
      generalize Int.tmod (rd n (b : Int)) 14 = t at *
      rw [Option.bind_some, if_pos (by omega), if_pos (by omega), if_pos (by omega), Int.toNat_natCast, rd_put c j j x (by omega), if_pos rfl]
      have sb := step_bd x t (by omega) tb
      exact ih k (j + 1) _ _ (by omega) (by omega) (plan_put c s hp j (by omega) x _ (by omega) sb.1 sb.2)
    · rw [if_neg hz, w64 (x := (j : Int) + 1) (by omega) (by omega)]
      exact ih k (j + 1) c s (by omega) (by omega) hp
theorem plan_t (k : Nat) (n : List Int) (hn : n.length ≤ 60) (hb : ∀ x ∈ n, 0 ≤ x ∧ x < 256) (hk : 21 < k) : ∃ c s, sidebandlaw12_plan.f k n = some (c, s) ∧ Plan c s := by
  unfold sidebandlaw12_plan.f
  rw [if_pos (by decide), Option.bind_some, List.length_replicate]
  refine plan_l n hn hb 21 k 0 _ _ (by omega) hk ⟨List.length_replicate, List.length_replicate, fun i hi => ?_⟩
  rw [rd_zeros 21 i hi]
  omega
/-- Where bands begin, as the plain law tells it. -/
theorem refEdges_t (k : Nat) (hk : 150 < k) : sidebandref04_Edges.f k = some Bno.EL := by
  have h0 : sidebandref04_Edges.f 150 = some Bno.EL := by decide +kernel
  have : ∀ m, sidebandref04_Edges.f (150 + m) = some Bno.EL := by
    intro m
    induction m with
    | zero => exact h0
    | succ m ih => exact sidebandref04_Edges.mono (150 + m) _ ih
  rw [show k = 150 + (k - 150) from by omega]
  exact this _
theorem rd_EL (n : Nat) : rd Bno.EL (n : Int) = Bno.el n := rfl
theorem el_up (i j : Nat) (hi : i < j) (hj : j < 22) : Bno.el i < Bno.el j := Bno.el_mono ⟨i, by omega⟩ ⟨j, hj⟩ hi
theorem el_bd (i : Nat) (hi : i < 22) : 0 ≤ Bno.el i ∧ Bno.el i ≤ 512 := by
  constructor
  · rcases Nat.eq_zero_or_pos i with h | h
    · rw [h, Bno.el_ends.1]; omega
    · have := el_up 0 i h hi
      rw [Bno.el_ends.1] at this; omega
  · rcases Nat.eq_or_lt_of_le (show i ≤ 21 by omega) with h | h
    · rw [h, Bno.el_ends.2]; omega
    · have := el_up i 21 h (by omega)
      rw [Bno.el_ends.2] at this; omega
/-- fill's lines stand below their bands' ceilings. -/
theorem fill_t (l c : List Int) (hl : l.length ≤ 1500) (hi : ∀ x ∈ l, -2147483648 ≤ x ∧ x < 2147483648) (hc : Fit c) (over : Bool) : sidebandlaw12_fill.f l c over = some ((List.range 512).map (Bno.fv l c over), (List.range 512).map (Bno.fv l c over)) := by
  unfold sidebandlaw12_fill.f Bno.fillF
  rw [if_pos ((Bno.fillOk_iff l c).2 ⟨hl, hi, hc.1, fun b hb => hc.2 b hb⟩)]
theorem rd_map (F : Nat → Int) (n i : Nat) (h : i < n) : rd ((List.range n).map F) (i : Int) = F i := by
  rw [rd_nat _ i (by simpa using h)]; simp
theorem fv_lt (l c : List Int) (i b : Nat) (hb : b < 21) (h0 : Bno.el b ≤ (i : Int)) (h1 : (i : Int) < Bno.el (b + 1)) : -(2 ^ (rd c (b : Int)).toNat) < Bno.fv l c false i ∧ Bno.fv l c false i < 2 ^ (rd c (b : Int)).toNat := by
  unfold Bno.fv
  rw [if_neg (by decide), Bno.band_one (i : Int) b hb h0 h1]
  exact tmod_lt _ _ (pw_pos _)

theorem noise_t (a0 a1 : Int) (n : Nat) (hn : n ≤ 26) : ∃ v, (∀ k, quant_Noise.f (k + 1) a0 a1 (n : Int) = some v) ∧ (-(2 ^ n) ≤ v ∧ v ≤ 2 ^ n) ∧ (3 ≤ n → v = 2 ^ (n - 2) ∨ v = -(2 ^ (n - 2))) := by
  have hp := pw_pos n
  by_cases h : n < 3
  · refine ⟨0, fun k => ?_, by omega, by omega⟩
    unfold quant_Noise.f
    rw [if_pos (by omega)]
    simp only [quant_Noise.j0, if_true]
  · have hq := pw_pos (n - 2)
    have hq2 := pw26 (n := n - 2) (by omega)
    have hle : (2 : Int) ^ (n - 2) ≤ 2 ^ n := pw_le (by omega)
    have key : ∀ k, quant_Noise.f (k + 1) a0 a1 (n : Int) = if (((((((((a0 * 2654435761) % 4294967296) + ((((a1) % 4294967296) * 40503) % 4294967296)) % 4294967296) + 12345) % 4294967296) * 1664525) % 4294967296) / 2147483648) = 1 then some (-(2 ^ (n - 2))) else some (2 ^ (n - 2)) := by
      intro k
      unfold quant_Noise.f
      rw [if_neg (by omega), show decide ((n : Int) > 26) = false from decide_eq_false (by omega)]
      simp only [quant_Noise.j0]
      rw [if_neg (by simp), w64 (x := (n : Int) - 2) (by omega) (by omega), if_pos (by omega), show (n : Int) - 2 = ((n - 2 : Nat) : Int) from by omega, shl_i32 1 (n - 2) (by omega) (by omega) (by omega), Int.one_mul, w32 (x := -(2 ^ (n - 2))) (by omega) (by omega)]
    by_cases hc : (((((((((a0 * 2654435761) % 4294967296) + ((((a1) % 4294967296) * 40503) % 4294967296)) % 4294967296) + 12345) % 4294967296) * 1664525) % 4294967296) / 2147483648) = 1
    · refine ⟨-(2 ^ (n - 2)), fun k => by rw [key, if_pos hc], by omega, fun _ => .inr rfl⟩
    · refine ⟨2 ^ (n - 2), fun k => by rw [key, if_neg hc], by omega, fun _ => .inl rfl⟩
/-- What is heard of a line. -/
def hval (c s : List Int) (seed : Int) (x : List Int) (i : Nat) (v : Int) : Prop := ∀ b : Nat, b < 21 → Bno.el b ≤ (i : Int) → (i : Int) < Bno.el (b + 1) →
  (rd s (b : Int) < rd c (b : Int) → v = nearv (rd x (i : Int)) (rd s (b : Int)).toNat (rd c (b : Int) - rd s (b : Int)).toNat * 2 ^ (rd s (b : Int)).toNat) ∧ (rd c (b : Int) ≤ rd s (b : Int) → ∀ k, quant_Noise.f (k + 1) seed (i : Int) (rd c (b : Int)) = some v)
theorem nearv_abs (x : Int) (s w : Nat) : -(2 ^ w - 1) ≤ nearv x s w ∧ nearv x s w ≤ 2 ^ w - 1 := by
  have := pw_pos w
  unfold nearv mn mx
  split <;> split at * <;> omega
theorem mul_bd (q P W : Int) (hP : 0 < P) (h0 : -W ≤ q) (h1 : q ≤ W) : -(W * P) ≤ q * P ∧ q * P ≤ W * P := by
  rw [← Int.neg_mul]
  exact ⟨Int.mul_le_mul_of_nonneg_right h0 (by omega), Int.mul_le_mul_of_nonneg_right h1 (by omega)⟩
theorem heard_one (k : Nat) (c s : List Int) (hp : Plan c s) (seed : Int) (x : List Int) (hx : ∀ y ∈ x, -2147483648 ≤ y ∧ y < 2147483648) (hxl : x.length = 512) (out : List Int) (ho : out.length = 512) (i : Nat) (hi : i < 512) :
    ∃ v, hval c s seed x i v ∧ quant_Heard.l0 (k + 1 + 1) c s seed out x 512 (i : Int) = quant_Heard.l0 (k + 1) c s seed (out.set i v) x 512 ((i + 1 : Nat) : Int) := by
  obtain ⟨h1, h2, h3⟩ := hp
  obtain ⟨b, hb, hbo, e0, e1⟩ := Bno.band_spec (i : Int) (by omega) (by omega)
  obtain ⟨hc, hs, hcs⟩ := h3 b hb
  obtain ⟨cn, hcn⟩ : ∃ n : Nat, rd c (b : Int) = n := ⟨(rd c (b : Int)).toNat, by omega⟩
  obtain ⟨sn, hsn⟩ : ∃ n : Nat, rd s (b : Int) = n := ⟨(rd s (b : Int)).toNat, by omega⟩
  have hxi := rd_all hx i (by omega)
  have one : ∀ b' : Nat, b' < 21 → Bno.el b' ≤ (i : Int) → (i : Int) < Bno.el (b' + 1) → b' = b := by
    intro b' hb' g0 g1
    have := Bno.band_one (i : Int) b' hb' g0 g1
    rw [hbo] at this
    omega
  rw [hcn] at hc hcs
  rw [hsn] at hs hcs
  by_cases ht : sn < cn
  · have hw := nearv_abs (rd x (i : Int)) sn (cn - sn)
    have hP := pw_pos sn
    have hm := mul_bd _ (2 ^ sn) (2 ^ (cn - sn) - 1) hP hw.1 hw.2
    have e5 : (2 ^ (cn - sn) - 1) * (2 : Int) ^ sn = 2 ^ cn - 2 ^ sn := by
      rw [Int.sub_mul, Int.one_mul, ← pw_add, show cn - sn + sn = cn from by omega]
    have hC := pw26 (n := cn) (by omega)
    rw [e5] at hm
    refine ⟨nearv (rd x (i : Int)) sn (cn - sn) * 2 ^ sn, fun b' hb' g0 g1 => ?_, ?_⟩
    · obtain rfl := one b' hb' g0 g1
      rw [hcn, hsn]
      exact ⟨fun _ => by rw [Int.toNat_natCast, show ((cn : Int) - sn).toNat = cn - sn from by omega], fun h => by omega⟩
    · conv => lhs; simp only [quant_Heard.l0]
      rw [if_pos (by omega), if_pos (by omega), if_pos (by omega)]
      unfold bands_Of.f mask_Told.f
      rw [hbo, Option.bind_some, if_pos (by omega), if_pos (by omega), if_pos (by omega), Option.bind_some, if_pos (by rw [hcn, hsn]; simp; omega), hsn, hcn, w64 (x := (cn : Int) - sn) (by omega) (by omega), show ((cn : Int) - sn) = ((cn - sn : Nat) : Int) from by omega, near_t k _ sn (cn - sn) hxi (by omega) (by omega), Option.bind_some, if_pos (by omega), if_pos (by omega), shl_i64 _ sn (by omega) (by omega) (by omega), w32 (by omega) (by omega), Int.toNat_natCast, w64 (x := (i : Int) + 1) (by omega) (by omega)]
      rfl
  · obtain ⟨v, hv, hvb, _⟩ := noise_t seed (i : Int) cn (by omega)
    refine ⟨v, fun b' hb' g0 g1 => ?_, ?_⟩
    · obtain rfl := one b' hb' g0 g1
      rw [hcn, hsn]
      exact ⟨fun h => by omega, fun _ => hv⟩
    · conv => lhs; simp only [quant_Heard.l0]
      rw [if_pos (by omega), if_pos (by omega), if_pos (by omega)]
      unfold bands_Of.f mask_Told.f
      rw [hbo, Option.bind_some, if_pos (by omega), if_pos (by omega), if_pos (by omega), Option.bind_some, if_neg (by rw [hcn, hsn]; simp; omega), hcn, hv, Option.bind_some, if_pos (by omega), Int.toNat_natCast, w64 (x := (i : Int) + 1) (by omega) (by omega)]
      rfl
theorem heard_l (c s : List Int) (hp : Plan c s) (seed : Int) (x : List Int) (hx : ∀ y ∈ x, -2147483648 ≤ y ∧ y < 2147483648) (hxl : x.length = 512) (d : Nat) : ∀ (k j : Nat) (out : List Int), j + d = 512 → d + 1 < k → out.length = 512 → (∀ i : Nat, i < j → hval c s seed x i (rd out (i : Int))) →
    ∃ out', quant_Heard.l0 k c s seed out x 512 (j : Int) = some (out', 0) ∧ out'.length = 512 ∧ ∀ i : Nat, i < 512 → hval c s seed x i (rd out' (i : Int)) := by
  induction d with
  | zero =>
    intro k j out hj hk ho hh
    obtain ⟨k, rfl⟩ : ∃ m, k = m + 1 := ⟨k - 1, by omega⟩
    refine ⟨out, ?_, ho, fun i hi => hh i (by omega)⟩
    simp only [quant_Heard.l0]
    rw [if_neg (by omega)]
  | succ d ih =>
    intro k j out hj hk ho hh
    obtain ⟨k, rfl⟩ : ∃ m, k = m + 1 + 1 := ⟨k - 2, by omega⟩
    obtain ⟨v, hv, e⟩ := heard_one k c s hp seed x hx hxl out ho j (by omega)
    rw [e]
    refine ih (k + 1) (j + 1) _ (by omega) (by omega) (by rw [List.length_set, ho]) fun i hi => ?_
    rw [rd_put out j i v (by omega)]
    by_cases e2 : j = i
    · subst e2; rw [if_pos rfl]; exact hv
    · rw [if_neg e2]; exact hh i (by omega)
theorem heard_t (k : Nat) (hk : 600 < k) (c s : List Int) (hp : Plan c s) (seed : Int) (x : List Int) (hx : ∀ y ∈ x, -2147483648 ≤ y ∧ y < 2147483648) (hxl : x.length = 512) :
    ∃ out, quant_Heard.f k x c s seed = some (out, 0) ∧ out.length = 512 ∧ ∀ i : Nat, i < 512 → hval c s seed x i (rd out (i : Int)) := by
  obtain ⟨k, rfl⟩ : ∃ m, k = m + 1 := ⟨k - 1, by omega⟩
  obtain ⟨h1, h2, h3⟩ := id hp
  unfold quant_Heard.f
  rw [hxl, if_pos (by omega), qright_t (k + 1) c s ⟨h1, fun i hi => (h3 i hi).1⟩ ⟨h2, fun i hi => (h3 i hi).2.1⟩ (fun i hi => (h3 i hi).2.2) (by omega), Option.bind_some]
  simp only [quant_Heard.j0]
  rw [if_neg (by simp), if_pos (by decide), hxl]
  exact heard_l c s hp seed x hx hxl 512 k 0 _ (by omega) (by omega) List.length_replicate (fun i hi => by omega)
theorem lives_t (k : Nat) (hk : 700 ≤ k) : sidebandlaw12_lives.f k = some true := by
  have h0 : sidebandlaw12_lives.f 700 = some true := by decide +kernel
  have : ∀ m, sidebandlaw12_lives.f (700 + m) = some true := by
    intro m
    induction m with
    | zero => exact h0
    | succ m ih => exact sidebandlaw12_lives.mono (700 + m) _ ih
  rw [show k = 700 + (k - 700) from by omega]
  exact this _

set_option maxRecDepth 10000 in
theorem law_l1 (c s x h : List Int) (seed : Int) (hp : Plan c s) (hx : x.length = 512) (hh : h.length = 512) (b : Nat) (hb : b < 21) (most : Int) (hm : 0 ≤ most ∧ most ≤ 134217728)
    (line : ∀ i : Nat, Bno.el b ≤ (i : Int) → (i : Int) < Bno.el (b + 1) → (rd h (i : Int) - rd x (i : Int) ≤ most ∧ -most ≤ rd h (i : Int) - rd x (i : Int)) ∧ (-134217728 ≤ rd h (i : Int) ∧ rd h (i : Int) ≤ 134217728) ∧ (-134217728 ≤ rd x (i : Int) ∧ rd x (i : Int) ≤ 134217728) ∧ (rd c (b : Int) ≤ rd s (b : Int) → ∀ k, quant_Noise.f (k + 1) seed (i : Int) (rd c (b : Int)) = some (rd h (i : Int)))) (d : Nat) :
    ∀ (k i : Nat), (i : Int) + d = Bno.el (b + 1) → Bno.el b ≤ (i : Int) → sidebandlaw12_QuantNear.l1 (k + 1 + d + 1) seed c s x h Bno.EL (b : Int) most (i : Int) 21 (b : Int) = sidebandlaw12_QuantNear.l0 (k + 1) seed c s x h Bno.EL 21 ((b + 1 : Nat) : Int) := by
  have hE := el_bd (b + 1) (by omega)
  obtain ⟨h1, h2, h3⟩ := hp
  induction d with
  | zero =>
    intro k i hi h0
    simp only [sidebandlaw12_QuantNear.l1]
    rw [w64 (x := (b : Int) + 1) (by omega) (by omega), if_pos (by omega), if_pos (by rw [Bno.EL_len]; omega), show ((b : Int) + 1) = ((b + 1 : Nat) : Int) from rfl, rd_EL, if_neg (by omega)]
  | succ d ih =>
    intro k i hi h0
    obtain ⟨l1, l2, l3, l4⟩ := line i h0 (by omega)
    have nx := ih k (i + 1) (by push_cast; omega) (by push_cast; omega)
    rw [show k + 1 + (d + 1) + 1 = (k + 1 + d + 1) + 1 from by omega]
    generalize hm2 : k + 1 + d + 1 = m at *
    conv => lhs; simp only [sidebandlaw12_QuantNear.l1]
    rw [w64 (x := (b : Int) + 1) (by omega) (by omega), if_pos (by omega), if_pos (by rw [Bno.EL_len]; omega), show ((b : Int) + 1) = ((b + 1 : Nat) : Int) from rfl, rd_EL, if_pos (by omega), if_pos (by omega), if_pos (by rw [hh]; omega), if_pos (by rw [hx]; omega), w64 (x := rd h (i : Int)) (by omega) (by omega), w64 (x := rd x (i : Int)) (by omega) (by omega), w64 (x := rd h (i : Int) - rd x (i : Int)) (by omega) (by omega), if_neg (by omega), w64 (x := -most) (by omega) (by omega), if_neg (by omega), if_pos (by omega), if_pos (by rw [h2]; omega), if_pos (by rw [h1]; omega), w64 (x := (i : Int) + 1) (by omega) (by omega)]
    by_cases hs : rd s (b : Int) ≥ rd c (b : Int)
    · rw [if_pos hs, ← hm2, l4 hs, Option.bind_some, if_pos rfl, hm2]
      exact nx
    · rw [if_neg hs]
      exact nx
theorem law_band (c s x h : List Int) (seed : Int) (hp : Plan c s) (b : Nat) (hb : b < 21) (hbel : ∀ i : Nat, Bno.el b ≤ (i : Int) → (i : Int) < Bno.el (b + 1) → -(2 ^ (rd c (b : Int)).toNat) < rd x (i : Int) ∧ rd x (i : Int) < 2 ^ (rd c (b : Int)).toNat) (hv : ∀ i : Nat, i < 512 → hval c s seed x i (rd h (i : Int))) :
    ∃ most, (0 ≤ most ∧ most ≤ 134217728) ∧ (∀ i : Nat, Bno.el b ≤ (i : Int) → (i : Int) < Bno.el (b + 1) → (rd h (i : Int) - rd x (i : Int) ≤ most ∧ -most ≤ rd h (i : Int) - rd x (i : Int)) ∧ (-134217728 ≤ rd h (i : Int) ∧ rd h (i : Int) ≤ 134217728) ∧ (-134217728 ≤ rd x (i : Int) ∧ rd x (i : Int) ≤ 134217728) ∧ (rd c (b : Int) ≤ rd s (b : Int) → ∀ k, quant_Noise.f (k + 1) seed (i : Int) (rd c (b : Int)) = some (rd h (i : Int))))
      ∧ ((rd s (b : Int) < rd c (b : Int) ∧ shl .i64 1 (rd s (b : Int)) = most) ∨ (rd c (b : Int) ≤ rd s (b : Int) ∧ shl .i64 2 (rd c (b : Int)) = most)) := by
  obtain ⟨h1, h2, h3⟩ := hp
  obtain ⟨hc, hs, hcs⟩ := h3 b hb
  have hE := el_bd (b + 1) (by omega)
  obtain ⟨cn, hcn⟩ : ∃ n : Nat, rd c (b : Int) = n := ⟨(rd c (b : Int)).toNat, by omega⟩
  obtain ⟨sn, hsn⟩ : ∃ n : Nat, rd s (b : Int) = n := ⟨(rd s (b : Int)).toNat, by omega⟩
  have pc := pw26 (n := cn) (by omega)
  have ps := pw26 (n := sn) (by omega)
  have pc0 := pw_pos cn
  have ps0 := pw_pos sn
  by_cases ht : rd s (b : Int) < rd c (b : Int)
  · refine ⟨2 ^ sn, by omega, fun i g0 g1 => ?_, .inl ⟨ht, by rw [hsn, shl_i64 1 sn (by omega) (by omega) (by omega), Int.one_mul]⟩⟩
    have e := (hv i (by omega) b hb g0 g1).1 ht
    have bx := hbel i g0 g1
    rw [hcn, hsn] at e
    rw [hcn, Int.toNat_natCast] at bx
    rw [Int.toNat_natCast, show ((cn : Int) - sn).toNat = cn - sn from by omega] at e
    obtain ⟨n1, n2, n3, n4⟩ := nearv_bd (rd x (i : Int)) sn (cn - sn) (by rw [show cn - sn + sn = cn from by omega]; exact bx)
    rw [show cn - sn + sn = cn from by omega, ← e] at n3 n4
    rw [← e] at n1 n2
    exact ⟨by omega, by omega, by omega, fun h => by omega⟩
  · refine ⟨2 * 2 ^ cn, by omega, fun i g0 g1 => ?_, .inr ⟨by omega, by rw [hcn, shl_i64 2 cn (by omega) (by omega) (by omega)]⟩⟩
    have e := (hv i (by omega) b hb g0 g1).2 (by omega)
    have bx := hbel i g0 g1
    rw [hcn, Int.toNat_natCast] at bx
    rw [hcn] at e
    obtain ⟨v, hv2, hvb, _⟩ := noise_t seed (i : Int) cn (by omega)
    have e2 := (hv2 0).symm.trans (e 0)
    injection e2 with e2
    rw [e2] at hvb
    exact ⟨by omega, by omega, by omega, fun _ => by rw [hcn]; exact e⟩
theorem law_l0 (c s x h : List Int) (seed : Int) (hp : Plan c s) (hx : x.length = 512) (hh : h.length = 512) (hbel : ∀ i b : Nat, b < 21 → Bno.el b ≤ (i : Int) → (i : Int) < Bno.el (b + 1) → -(2 ^ (rd c (b : Int)).toNat) < rd x (i : Int) ∧ rd x (i : Int) < 2 ^ (rd c (b : Int)).toNat) (hv : ∀ i : Nat, i < 512 → hval c s seed x i (rd h (i : Int))) (d : Nat) :
    ∀ b : Nat, b + d = 21 → ∃ K, ∀ k, K ≤ k → sidebandlaw12_QuantNear.l0 k seed c s x h Bno.EL 21 (b : Int) = some true := by
  induction d with
  | zero =>
    intro b hb
    refine ⟨2, fun k hk => ?_⟩
    obtain ⟨k, rfl⟩ : ∃ m, k = m + 1 + 1 := ⟨k - 2, by omega⟩
    simp only [sidebandlaw12_QuantNear.l0]
    obtain ⟨v, hv2, hvb, hv3⟩ := noise_t seed 3 20 (by omega)
    have := hv2 k
    rw [if_neg (by omega), show (20 : Int) = ((20 : Nat) : Int) from rfl, this, Option.bind_some]
    rcases hv3 (by omega) with rfl | rfl
    · decide +kernel
    · decide +kernel
  | succ d ih =>
    intro b hb
    obtain ⟨K, hK⟩ := ih (b + 1) (by omega)
    obtain ⟨most, hm, line, hmost⟩ := law_band c s x h seed hp b (by omega) (fun i => hbel i b (by omega)) hv
    obtain ⟨h1, h2, h3⟩ := id hp
    obtain ⟨hc, hs, hcs⟩ := h3 b (by omega)
    have hE := el_bd (b + 1) (by omega)
    have hE0 := el_bd b (by omega)
    have hu := el_up b (b + 1) (by omega) (by omega)
    obtain ⟨i, hi⟩ : ∃ i : Nat, (i : Int) = Bno.el b := ⟨(Bno.el b).toNat, by omega⟩
    obtain ⟨D, hD⟩ : ∃ D : Nat, (i : Int) + D = Bno.el (b + 1) := ⟨(Bno.el (b + 1) - Bno.el b).toNat, by omega⟩
    refine ⟨K + D + 5, fun k hk => ?_⟩
    obtain ⟨k, rfl⟩ : ∃ m, k = (m + 1 + D + 1) + 1 + 1 := ⟨k - D - 4, by omega⟩
    have body : ∀ bb : Bool, sidebandlaw12_QuantNear.j3 ((k + 1 + D + 1) + 1) seed c s x h Bno.EL (b : Int) most 21 (b : Int) = some true := by
      intro _
      simp only [sidebandlaw12_QuantNear.j3]
      rw [if_pos (by omega), if_pos (by rw [Bno.EL_len]; omega), rd_EL, ← hi, law_l1 c s x h seed hp hx hh b (by omega) most hm line D k i hD (by omega)]
      exact hK _ (by omega)
    simp only [sidebandlaw12_QuantNear.l0]
    rw [if_pos (by omega), if_pos (by omega), if_pos (by rw [h1]; omega), if_pos (by omega), if_pos (by rw [h2]; omega)]
    rcases hmost with ⟨ht, e⟩ | ⟨ht, e⟩
    · rw [if_pos ht, if_pos (by omega), e]; exact body true
    · rw [if_neg (by omega), e]; exact body true
theorem fv_i32 (l c : List Int) (hi : ∀ x ∈ l, -2147483648 ≤ x ∧ x < 2147483648) (hc : Fit c) (i : Nat) (h : i < 512) : -2147483648 ≤ Bno.fv l c false i ∧ Bno.fv l c false i < 2147483648 := by
  obtain ⟨b, hb, _, e0, e1⟩ := Bno.band_spec (i : Int) (by omega) (by omega)
  have h2 := fv_lt l c i b hb e0 e1
  have h3 := pw26 (n := (rd c (b : Int)).toNat) (by have := hc.2 b hb; omega)
  omega
theorem QuantNear : sidebandlaw12_QuantNear.Pure := by
  intro l n seed _ _ hl _ _ hn _
  have hi : ∀ x ∈ l, -2147483648 ≤ x ∧ x < 2147483648 := fun x hx => wf_i32 (hl x hx)
  have hn8 : ∀ x ∈ n, 0 ≤ x ∧ x < 256 := fun x hx => wf_u8 (hn x hx)
  by_cases h1 : (l.length : Int) > 1500
  · refine ⟨701, ?_⟩
    unfold sidebandlaw12_QuantNear.f
    rw [lives_t 701 (by omega), Option.bind_some, if_pos rfl, if_pos h1]
    simp only [sidebandlaw12_QuantNear.j0, if_true]
    rw [lives_t 700 (by omega)]; rfl
  by_cases h2 : (n.length : Int) > 60
  · refine ⟨701, ?_⟩
    unfold sidebandlaw12_QuantNear.f
    rw [lives_t 701 (by omega), Option.bind_some, if_pos rfl, if_neg h1, show decide ((n.length : Int) > 60) = true from decide_eq_true h2]
    simp only [sidebandlaw12_QuantNear.j0, if_true]
    rw [lives_t 700 (by omega)]; rfl
  obtain ⟨c, s, hp0, hp⟩ := plan_t 22 n (by omega) hn8 (by omega)
  have hfit : Fit c := ⟨hp.1, fun i hi => (hp.2.2 i hi).1⟩
  have pl : ∀ k, 22 ≤ k → sidebandlaw12_plan.f k n = some (c, s) := by
    intro k hk
    obtain ⟨m, rfl⟩ : ∃ m, k = 22 + m := ⟨k - 22, by omega⟩
    induction m with
    | zero => exact hp0
    | succ m ih => exact sidebandlaw12_plan.mono n (22 + m) _ (ih (by omega))
  generalize hxs : (List.range 512).map (Bno.fv l c false) = xs
  have hxl : xs.length = 512 := by rw [← hxs]; simp
  have rx : ∀ i : Nat, i < 512 → rd xs (i : Int) = Bno.fv l c false i := fun i h => by rw [← hxs]; exact rd_map _ 512 i h
  have hx32 : ∀ y ∈ xs, -2147483648 ≤ y ∧ y < 2147483648 := by
    intro y hy
    rw [← hxs] at hy
    obtain ⟨i, hi2, rfl⟩ := List.mem_map.1 hy
    exact fv_i32 l c hi hfit i (List.mem_range.1 hi2)
  obtain ⟨h, hh0, hhl, hhv⟩ := heard_t 601 (by omega) c s hp seed xs hx32 hxl
  have hd : ∀ k, 601 ≤ k → quant_Heard.f k xs c s seed = some (h, 0) := by
    intro k hk
    obtain ⟨m, rfl⟩ : ∃ m, k = 601 + m := ⟨k - 601, by omega⟩
    induction m with
    | zero => exact hh0
    | succ m ih => exact quant_Heard.mono xs c s seed (601 + m) _ (ih (by omega))
  obtain ⟨K, hK⟩ := law_l0 c s xs h seed hp hxl hhl (fun i b hb g0 g1 => by
    have hE := el_bd (b + 1) (by omega)
    rw [rx i (by omega)]
    exact fv_lt l c i b hb g0 g1) hhv 21 0 (by omega)
  refine ⟨K + 1000, ?_⟩
  unfold sidebandlaw12_QuantNear.f
  rw [lives_t _ (by omega), Option.bind_some, if_pos rfl, if_neg h1, show decide ((n.length : Int) > 60) = false from decide_eq_false h2, show K + 1000 = (K + 999) + 1 from rfl]
  simp only [sidebandlaw12_QuantNear.j0]
  rw [if_neg (by simp), pl _ (by omega), Option.bind_some]
  simp only []
  rw [fill_t l c (by omega) hi hfit false, Option.bind_some]
  simp only []
  rw [hxs, hd _ (by omega), Option.bind_some]
  simp only []
  rw [if_pos trivial, hhl, show K + 999 = (K + 998) + 1 from rfl]
  simp only [sidebandlaw12_QuantNear.j1]
  rw [if_neg (by simp), refEdges_t _ (by omega), Option.bind_some, hp.1]
  exact hK _ (by omega)

end Go.Proofs.Ytlbjoflmfboeeaa.Pure
