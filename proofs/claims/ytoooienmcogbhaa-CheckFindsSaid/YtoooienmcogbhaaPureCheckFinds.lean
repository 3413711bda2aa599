/-
  CheckFinds: bits that are turned change the sum; no condition.
-/
import Derived.Test.YtoooienmcogbhaaPCheckFindsx1
import Derived.Test.YtoooienmcogbhaaChf
set_option linter.unusedVariables false
set_option linter.unusedSimpArgs false
namespace Go.Proofs.Ytoooienmcogbhaa.Pure
open Go.RowKit Go.Proofs.Ytoooienmcogbhaa.PCheckFinds Go.Proofs.YtoooienmcogbhaaW.PrintWords Go.Proofs.YtoooienmcogbhaaW.PrintLast Go.Proofs.YtoooienmcogbhaaW.PrintMore
open Go.Proofs.Ytoooienmcogbhaa.Chk

theorem w64 {x : Int} (h0 : -9223372036854775808 ≤ x) (h1 : x < 9223372036854775808) : wrap64 x = x := by unfold wrap64; omega
theorem w32 {x : Int} (h0 : -2147483648 ≤ x) (h1 : x < 2147483648) : wrap32 x = x := by unfold wrap32; omega
theorem wf_i64 {x : Int} (h : (Lit.int .i64 x).wf = true) : -9223372036854775808 ≤ x ∧ x < 9223372036854775808 := by
  simp [Lit.wf, IntKind.min, IntKind.max, IntKind.signed, IntKind.bits] at h; omega
theorem wf_i32 {x : Int} (h : (Lit.int .i32 x).wf = true) : -2147483648 ≤ x ∧ x < 2147483648 := by
  simp [Lit.wf, IntKind.min, IntKind.max, IntKind.signed, IntKind.bits] at h; omega
theorem wf_u64 {x : Int} (h : (Lit.int .u64 x).wf = true) : 0 ≤ x ∧ x < 18446744073709551616 := by
  simp [Lit.wf, IntKind.min, IntKind.max, IntKind.signed, IntKind.bits] at h; omega
theorem wf_u32 {x : Int} (h : (Lit.int .u32 x).wf = true) : 0 ≤ x ∧ x < 4294967296 := by
  simp [Lit.wf, IntKind.min, IntKind.max, IntKind.signed, IntKind.bits] at h; omega
/-- Powers of two as whole numbers: the greatest that are asked. -/
theorem pw_pos (n : Nat) : (0 : Int) < 2 ^ n := Int.pow_pos (by omega)
theorem pw_succ (n : Nat) : (2 : Int) ^ (n + 1) = 2 * 2 ^ n := by rw [Int.pow_succ]; omega
theorem pw_le {a b : Nat} (h : a ≤ b) : (2 : Int) ^ a ≤ 2 ^ b := by
  induction h with
  | refl => exact Int.le_refl _
  | step _ ih => rw [pw_succ]; have := pw_pos a; omega
theorem pw62 {n : Nat} (h : n ≤ 62) : (2 : Int) ^ n ≤ 4611686018427387904 := pw_le (a := n) (b := 62) h
theorem and_one_i64 (x : Int) : Go.bits .and .i64 x 1 = x % 2 := by
  show IntKind.i64.wrap ((BitVec.ofInt 64 x &&& BitVec.ofInt 64 1).toNat : Int) = _
  have h1 : (BitVec.ofInt 64 1).toNat = 1 := by decide
  have h2 : ((BitVec.ofInt 64 x).toNat : Int) = x % 18446744073709551616 := by
    rw [BitVec.toNat_ofInt, Int.toNat_of_nonneg (Int.emod_nonneg _ (by decide))]; rfl
  rw [BitVec.toNat_and, h1, Nat.and_one_is_mod, IntKind.wrap_i64]
  omega
/-- n divided by 2^by to the nearest, halves upwards. -/
def rnd (n : Int) (by_ : Nat) : Int := if by_ = 0 then n else n / 2 ^ by_ + n / 2 ^ (by_ - 1) % 2
theorem div_bd (n d : Int) (hd : 1 ≤ d) (h0 : -9223372036854775808 ≤ n) (h1 : n < 9223372036854775808) : -9223372036854775808 ≤ n / d ∧ n / d < 9223372036854775808 := by
  constructor
  · rw [Int.le_ediv_iff_mul_le (by omega)]
    have : (-9223372036854775808 : Int) * d ≤ -9223372036854775808 * 1 := Int.mul_le_mul_of_nonpos_left (by decide) hd
    omega
  · rw [Int.ediv_lt_iff_lt_mul (by omega)]
    have : (9223372036854775808 : Int) * 1 ≤ 9223372036854775808 * d := Int.mul_le_mul_of_nonneg_left hd (by decide)
    omega
theorem div2_bd (n d : Int) (hd : 2 ≤ d) (h0 : -9223372036854775808 ≤ n) (h1 : n < 9223372036854775808) : -4611686018427387904 ≤ n / d ∧ n / d < 4611686018427387904 := by
  constructor
  · rw [Int.le_ediv_iff_mul_le (by omega)]
    have : (-4611686018427387904 : Int) * d ≤ -4611686018427387904 * 2 := Int.mul_le_mul_of_nonpos_left (by decide) hd
    omega
  · rw [Int.ediv_lt_iff_lt_mul (by omega)]
    have : (4611686018427387904 : Int) * 2 ≤ 4611686018427387904 * d := Int.mul_le_mul_of_nonneg_left hd (by decide)
    omega
theorem rnd_bd (n : Int) (b : Nat) (h0 : -9223372036854775808 ≤ n) (h1 : n < 9223372036854775808) : -9223372036854775808 ≤ rnd n b ∧ rnd n b < 9223372036854775808 := by
  unfold rnd
  by_cases hb : b = 0
  · rw [if_pos hb]; exact ⟨h0, h1⟩
  · rw [if_neg hb]
    obtain ⟨c, rfl⟩ : ∃ c, b = c + 1 := ⟨b - 1, by omega⟩
    have := div2_bd n (2 ^ (c + 1)) (by rw [pw_succ]; have := pw_pos c; omega) h0 h1
    omega
/-- The least number of so many bits, from 1 to 64. -/
def least (w : Nat) : Int := -2 ^ (w - 1)
/-- n held to w bits; 0, if there are no such bits. -/
def sat (n w : Int) : Int := if w < 1 ∨ 64 < w then 0 else if n < least w.toNat then least w.toNat else if n > -(least w.toNat + 1) then -(least w.toNat + 1) else n
theorem least_bd {w : Nat} (h0 : 1 ≤ w) (h1 : w ≤ 64) : -9223372036854775808 ≤ least w ∧ least w ≤ -1 := by
  unfold least
  have := pw_pos (w - 1)
  have : (2 : Int) ^ (w - 1) ≤ 2 ^ 63 := pw_le (by omega)
  omega
theorem sat_bd (n w : Int) (h0 : -9223372036854775808 ≤ n) (h1 : n < 9223372036854775808) : -9223372036854775808 ≤ sat n w ∧ sat n w < 9223372036854775808 := by
  unfold sat
  by_cases h : w < 1 ∨ 64 < w
  · rw [if_pos h]; omega
  · rw [if_neg h]
    have := least_bd (w := w.toNat) (by omega) (by omega)
    split
    · omega
    · split <;> omega

theorem xor8 (x y : Nat) (hx : x < 256) (hy : y < 256) : Go.bits .xor .u8 (x : Int) (y : Int) = ((x ^^^ y : Nat) : Int) := by
  show IntKind.u8.wrap ((BitVec.ofInt 8 (x : Int) ^^^ BitVec.ofInt 8 (y : Int)).toNat : Int) = _
  have e : ∀ z : Nat, z < 256 → (BitVec.ofInt 8 (z : Int)).toNat = z := by
    intro z hz
    rw [BitVec.toNat_ofInt]; omega
  rw [BitVec.toNat_xor, e x hx, e y hy]
  have hl : x ^^^ y < 256 := Nat.xor_lt_two_pow (n := 8) hx hy
  show ((x ^^^ y : Nat) : Int) % 256 = _
  omega
theorem shl8 : ∀ r : Fin 8, shl .u8 1 (r.val : Int) = ((2 ^ r.val : Nat) : Int) := by decide
theorem bit_test (d j : Nat) (hd : d < 2 ^ 32) (hj : j < 32) : (Go.bits .and .u32 (shr .u32 (d : Int) (j : Int)) 1 = 1) ↔ d.testBit j = true := by
  have e : shr .u32 (d : Int) (j : Int) = (((BitVec.ofNat 32 (d / 2 ^ j)).toNat : Nat) : Int) := by
    unfold shr
    rw [Int.toNat_natCast, Nat.min_eq_left (by show j ≤ 32; omega), BitVec.toNat_ofNat, Nat.mod_eq_of_lt (Nat.lt_of_le_of_lt (Nat.div_le_self _ _) hd)]
    rfl
  rw [e, and_one, BitVec.getLsbD, BitVec.toNat_ofNat, Nat.mod_eq_of_lt (Nat.lt_of_le_of_lt (Nat.div_le_self _ _) hd), Nat.testBit_zero, Nat.testBit_eq_decide_div_mod_eq]
  by_cases h : d / 2 ^ j % 2 = 1 <;> simp [h]
theorem fOf_ints (m : List Nat) (h : ∀ x ∈ m, x < 256) (hl : m.length ≤ 3000) : check_Of.f (ints m) = some ((crc m).toNat : Int) := by
  show fOf (ints m) = _
  unfold fOf
  have e : (ints m).map Int.toNat = m := by unfold ints; rw [List.map_map]; simp [Function.comp_def]
  have hh : (∀ x ∈ ints m, 0 ≤ x ∧ x < 256) ∧ (ints m).length ≤ maxLen := by
    refine ⟨?_, ?_⟩
    · intro x hx
      unfold ints at hx
      obtain ⟨y, hy, rfl⟩ := List.mem_map.1 hx
      have := h y hy
      omega
    · rw [ints_len]
      have : (3000 : Nat) ≤ maxLen := by decide
      omega
  rw [if_pos hh, e]
theorem ints_set (m : List Nat) (p v : Nat) : (ints m).set p (v : Int) = ints (m.set p v) := by unfold ints; rw [List.map_set]
theorem ints_rd (m : List Nat) (p : Nat) : rd (ints m) (p : Int) = ((m.getD p 0 : Nat) : Int) := by
  unfold rd ints
  rw [Int.toNat_natCast, List.getD_eq_getElem?_getD, List.getD_eq_getElem?_getD, List.getElem?_map]
  cases m[p]? <;> rfl
theorem finds_l (m : List Nat) (hm : ∀ x ∈ m, x < 256) (hl : m.length ≤ 2000) (i d : Nat) (hd : d < 2 ^ 32) (hi : i + 32 ≤ 8 * m.length) (r : Nat) : ∀ (k j : Nat), j + r = 32 → r < k →
    sidebandlaw03_CheckFinds.l0 k (ints m) (d : Int) (i : Int) (ints (burst m i d j)) (j : Int) = some (((crc (burst m i d 32)).toNat : Int) != ((crc m).toNat : Int)) := by
  induction r with
  | zero =>
    intro k j hj hk
    obtain ⟨k, rfl⟩ : ∃ n, k = n + 1 := ⟨k - 1, by omega⟩
    obtain rfl : j = 32 := by omega
    simp only [sidebandlaw03_CheckFinds.l0]
    rw [if_neg (by omega), fOf_ints _ (burst_lt m i d 32 hm) (by rw [burst_len]; omega), fOf_ints m hm (by omega)]
    rfl
  | succ r ih =>
    intro k j hj hk
    obtain ⟨k, rfl⟩ : ∃ n, k = n + 1 := ⟨k - 1, by omega⟩
    have ih := ih k (j + 1) (by omega) (by omega)
    simp only [sidebandlaw03_CheckFinds.l0]
    rw [if_pos (by omega), if_pos (by omega), w64 (x := (j : Int) + 1) (by omega) (by omega), show ((j : Int) + 1) = ((j + 1 : Nat) : Int) from rfl]
    have hb : burst m i d (j + 1) = if d.testBit j then flip (burst m i d j) (i + j) else burst m i d j := rfl
    by_cases ht : d.testBit j = true
    · rw [if_pos ((bit_test d j hd (by omega)).2 ht)]
      rw [if_pos ht] at hb
      rw [hb] at ih
      have e1 : wrap64 ((i : Int) + (j : Int)) = ((i + j : Nat) : Int) := by rw [w64 (by omega) (by omega)]; rfl
      have e2 : wrap64 (Int.tdiv ((i + j : Nat) : Int) 8) = (((i + j) / 8 : Nat) : Int) := by
        rw [Int.tdiv_eq_ediv_of_nonneg (Int.natCast_nonneg _), w64 (by omega) (by omega)]; rfl
      have e3 : Int.tmod ((i + j : Nat) : Int) 8 = (((i + j) % 8 : Nat) : Int) := by rw [Int.tmod_eq_emod_of_nonneg (Int.natCast_nonneg _)]; rfl
      have hs : shl .u8 1 (((i + j) % 8 : Nat) : Int) = ((2 ^ ((i + j) % 8) : Nat) : Int) := shl8 ⟨(i + j) % 8, by omega⟩
      have hp : 2 ^ ((i + j) % 8) < 256 := Nat.lt_of_lt_of_le (Nat.pow_lt_pow_right (a := 2) (n := 8) (m := (i + j) % 8) (by omega) (by omega)) (by decide)
      rw [e1, e2, e3, if_pos (Int.natCast_nonneg _), if_pos (by rw [ints_len, burst_len]; omega), if_pos (Int.natCast_nonneg _), ints_rd, hs, xor8 _ _ ?_ hp, Int.toNat_natCast, ints_set]
      · exact ih
      · rw [List.getD_eq_getElem?_getD, List.getElem?_eq_getElem (by rw [burst_len]; omega)]
        exact burst_lt m i d j hm _ (List.getElem_mem _)
    · rw [if_neg (fun h => ht ((bit_test d j hd (by omega)).1 h))]
      rw [if_neg ht] at hb
      rw [hb] at ih
      exact ih
theorem CheckFinds : sidebandlaw03_CheckFinds.Pure := by
  intro l a d hl1 hl2 hl ha hd
  refine ⟨101, ?_⟩
  have hlb : ∀ x ∈ l, 0 ≤ x ∧ x < 256 := by
    intro x hx
    have := hl x hx
    simp [Lit.wf, IntKind.min, IntKind.max, IntKind.signed, IntKind.bits] at this
    omega
  have hd := wf_u32 hd
  have ha := wf_i64 ha
  unfold sidebandlaw03_CheckFinds.f sidebandlaw03_lives.f
  simp only [Option.bind_some, if_true]
  have yes : sidebandlaw03_CheckFinds.j0 (100 + 1) l a d true = some true := by
    simp only [sidebandlaw03_CheckFinds.j0, sidebandlaw03_lives.f]
    rfl
  by_cases h1 : (l.length : Int) < 8
  · rw [if_pos h1]; exact yes
  rw [if_neg h1]
  by_cases h2 : (l.length : Int) > 2000
  · rw [if_pos h2]; exact yes
  rw [if_neg h2]
  by_cases h3 : d = 0
  · rw [show (d == 0) = true from by rw [beq_iff_eq]; exact h3]; exact yes
  rw [show (d == 0) = false from by rw [beq_eq_false_iff_ne]; exact h3]
  have e := ints_of l hlb
  obtain ⟨m, hm⟩ : ∃ m, m = l.map Int.toNat := ⟨_, rfl⟩
  have hml : m.length = l.length := by rw [hm]; simp
  rw [← hm] at e
  have hmb : ∀ x ∈ m, x < 256 := by
    intro x hx
    rw [hm] at hx
    obtain ⟨y, hy, rfl⟩ := List.mem_map.1 hx
    have := hlb y hy
    omega
  have hlen : ((ints m).length : Int) = (m.length : Int) := by rw [ints_len]
  obtain ⟨D, rfl⟩ : ∃ D : Nat, d = (D : Int) := ⟨d.toNat, by omega⟩
  rw [← e]
  simp only [sidebandlaw03_CheckFinds.j0]
  have q1 : IntKind.u64.wrap (wrap64 (wrap64 (8 * ((ints m).length : Int)) - 31)) = 8 * (m.length : Int) - 31 := by
    rw [hlen, w64 (x := 8 * (m.length : Int)) (by omega) (by omega), w64 (by omega) (by omega)]
    show (8 * (m.length : Int) - 31) % 18446744073709551616 = _
    omega
  have q2 : IntKind.u64.wrap a = a % 18446744073709551616 := rfl
  rw [q1, q2, if_neg (by decide), if_neg (by omega)]
  simp only [Option.bind_some, List.nil_append, List.length_nil, Nat.zero_add]
  rw [if_pos (by rw [ints_len]; omega)]
  have a0 : 0 ≤ a % 18446744073709551616 := by omega
  have q3 : Int.tmod (a % 18446744073709551616) (8 * (m.length : Int) - 31) = (a % 18446744073709551616) % (8 * (m.length : Int) - 31) := Int.tmod_eq_emod_of_nonneg a0
  have b0 := Int.emod_nonneg (a % 18446744073709551616) (b := 8 * (m.length : Int) - 31) (by omega)
  have b1 := Int.emod_lt_of_pos (a % 18446744073709551616) (b := 8 * (m.length : Int) - 31) (by omega)
  rw [q3, w64 (by omega) (by omega)]
  obtain ⟨i, hi⟩ : ∃ i : Nat, (a % 18446744073709551616) % (8 * (m.length : Int) - 31) = (i : Int) := ⟨Int.toNat _, (Int.toNat_of_nonneg b0).symm⟩
  rw [hi] at b1 ⊢
  have := finds_l m hmb (by omega) i D (by omega) (by omega) 32 100 0 (by omega) (by omega)
  rw [show burst m i D 0 = m from rfl] at this
  rw [show ((0 : Int)) = ((0 : Nat) : Int) from rfl, this]
  have hne := burst_crc m i D (by omega) (by omega) (by omega)
  congr 1
  rw [bne_iff_ne]
  intro h
  exact hne (BitVec.eq_of_toNat_eq (by omega))

end Go.Proofs.Ytoooienmcogbhaa.Pure
