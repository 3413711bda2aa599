/-
  The walk of energy.Ceilings: the ceilings of 512 lines; ErrArg of any other number of them. No condition.
-/
import Derived.Test.YtoooienmcogbhaaU1
import Derived.Test.YtoooienmcogbhaaUQ
import Derived.Test.YtoooienmcogbhaaPLogsPowersx1
import Derived.Test.YtoooienmcogbhaaPBandsEdgesx1
set_option linter.unusedVariables false
set_option linter.unusedSimpArgs false
namespace Go.Proofs.Ytoooienmcogbhaa.Ceil
open Go.RowKit Go.Proofs.Ytoooienmcogbhaa Go.Proofs.YtoooienmcogbhaaW.PrintWords Go.Proofs.YtoooienmcogbhaaW.PrintLast Go.Proofs.YtoooienmcogbhaaW.PrintMore
open Go.Proofs.Ytoooienmcogbhaa.PLogsPowers (bits_Len32.f bits_Len32.calls)

theorem w64 {x : Int} (h0 : -9223372036854775808 ≤ x) (h1 : x < 9223372036854775808) : wrap64 x = x := by unfold wrap64; omega
theorem w32 {x : Int} (h0 : -2147483648 ≤ x) (h1 : x < 2147483648) : wrap32 x = x := by unfold wrap32; omega
theorem wf_i64 {x : Int} (h : (Lit.int .i64 x).wf = true) : -9223372036854775808 ≤ x ∧ x < 9223372036854775808 := by
  simp [Lit.wf, IntKind.min, IntKind.max, IntKind.signed, IntKind.bits] at h; omega
theorem wf_i32 {x : Int} (h : (Lit.int .i32 x).wf = true) : -2147483648 ≤ x ∧ x < 2147483648 := by
  simp [Lit.wf, IntKind.min, IntKind.max, IntKind.signed, IntKind.bits] at h; omega
theorem wf_u64 {x : Int} (h : (Lit.int .u64 x).wf = true) : 0 ≤ x ∧ x < 18446744073709551616 := by
  simp [Lit.wf, IntKind.min, IntKind.max, IntKind.signed, IntKind.bits] at h; omega
theorem wf_u32 {x : Int} (h : (Lit.int .u32 x).wf = true) : 0 ≤ x ∧ x < 4294967296 := by
  simp [Lit.wf, IntKind.min, IntKind.max, IntKind.signed, IntKind.bits] at h; omega
/-- Powers of two as whole numbers: the greatest that are asked. -/
theorem pw_pos (n : Nat) : (0 : Int) < 2 ^ n := Int.pow_pos (by omega)
theorem pw_succ (n : Nat) : (2 : Int) ^ (n + 1) = 2 * 2 ^ n := by rw [Int.pow_succ]; omega
theorem pw_le {a b : Nat} (h : a ≤ b) : (2 : Int) ^ a ≤ 2 ^ b := by
  induction h with
  | refl => exact Int.le_refl _
  | step _ ih => rw [pw_succ]; have := pw_pos a; omega
theorem pw62 {n : Nat} (h : n ≤ 62) : (2 : Int) ^ n ≤ 4611686018427387904 := pw_le (a := n) (b := 62) h
theorem and_one_i64 (x : Int) : Go.bits .and .i64 x 1 = x % 2 := by
  show IntKind.i64.wrap ((BitVec.ofInt 64 x &&& BitVec.ofInt 64 1).toNat : Int) = _
  have h1 : (BitVec.ofInt 64 1).toNat = 1 := by decide
  have h2 : ((BitVec.ofInt 64 x).toNat : Int) = x % 18446744073709551616 := by
    rw [BitVec.toNat_ofInt, Int.toNat_of_nonneg (Int.emod_nonneg _ (by decide))]; rfl
  rw [BitVec.toNat_and, h1, Nat.and_one_is_mod, IntKind.wrap_i64]
  omega
/-- n divided by 2^by to the nearest, halves upwards. -/
def rnd (n : Int) (by_ : Nat) : Int := if by_ = 0 then n else n / 2 ^ by_ + n / 2 ^ (by_ - 1) % 2
theorem div_bd (n d : Int) (hd : 1 ≤ d) (h0 : -9223372036854775808 ≤ n) (h1 : n < 9223372036854775808) : -9223372036854775808 ≤ n / d ∧ n / d < 9223372036854775808 := by
  constructor
  · rw [Int.le_ediv_iff_mul_le (by omega)]
    have : (-9223372036854775808 : Int) * d ≤ -9223372036854775808 * 1 := Int.mul_le_mul_of_nonpos_left (by decide) hd
    omega
  · rw [Int.ediv_lt_iff_lt_mul (by omega)]
    have : (9223372036854775808 : Int) * 1 ≤ 9223372036854775808 * d := Int.mul_le_mul_of_nonneg_left hd (by decide)
    omega
theorem div2_bd (n d : Int) (hd : 2 ≤ d) (h0 : -9223372036854775808 ≤ n) (h1 : n < 9223372036854775808) : -4611686018427387904 ≤ n / d ∧ n / d < 4611686018427387904 := by
  constructor
  · rw [Int.le_ediv_iff_mul_le (by omega)]
    have : (-4611686018427387904 : Int) * d ≤ -4611686018427387904 * 2 := Int.mul_le_mul_of_nonpos_left (by decide) hd
    omega
  · rw [Int.ediv_lt_iff_lt_mul (by omega)]
    have : (4611686018427387904 : Int) * 2 ≤ 4611686018427387904 * d := Int.mul_le_mul_of_nonneg_left hd (by decide)
    omega
theorem rnd_bd (n : Int) (b : Nat) (h0 : -9223372036854775808 ≤ n) (h1 : n < 9223372036854775808) : -9223372036854775808 ≤ rnd n b ∧ rnd n b < 9223372036854775808 := by
  unfold rnd
  by_cases hb : b = 0
  · rw [if_pos hb]; exact ⟨h0, h1⟩
  · rw [if_neg hb]
    obtain ⟨c, rfl⟩ : ∃ c, b = c + 1 := ⟨b - 1, by omega⟩
    have := div2_bd n (2 ^ (c + 1)) (by rw [pw_succ]; have := pw_pos c; omega) h0 h1
    omega
/-- The least number of so many bits, from 1 to 64. -/
def least (w : Nat) : Int := -2 ^ (w - 1)
/-- n held to w bits; 0, if there are no such bits. -/
def sat (n w : Int) : Int := if w < 1 ∨ 64 < w then 0 else if n < least w.toNat then least w.toNat else if n > -(least w.toNat + 1) then -(least w.toNat + 1) else n
theorem least_bd {w : Nat} (h0 : 1 ≤ w) (h1 : w ≤ 64) : -9223372036854775808 ≤ least w ∧ least w ≤ -1 := by
  unfold least
  have := pw_pos (w - 1)
  have : (2 : Int) ^ (w - 1) ≤ 2 ^ 63 := pw_le (by omega)
  omega
theorem sat_bd (n w : Int) (h0 : -9223372036854775808 ≤ n) (h1 : n < 9223372036854775808) : -9223372036854775808 ≤ sat n w ∧ sat n w < 9223372036854775808 := by
  unfold sat
  by_cases h : w < 1 ∨ 64 < w
  · rw [if_pos h]; omega
  · rw [if_neg h]
    have := least_bd (w := w.toNat) (by omega) (by omega)
    split
    · omega
    · split <;> omega

def TABL : ByteArray := ⟨#[0, 1, 2, 2, 3, 3, 3, 3, 4, 4, 4, 4, 4, 4, 4, 4, 5, 5, 5, 5, 5, 5, 5, 5, 5, 5, 5, 5, 5, 5, 5, 5, 6, 6, 6, 6, 6, 6, 6, 6, 6, 6, 6, 6, 6, 6, 6, 6, 6, 6, 6, 6, 6, 6, 6, 6, 6, 6, 6, 6, 6, 6, 6, 6, 7, 7, 7, 7, 7, 7, 7, 7, 7, 7, 7, 7, 7, 7, 7, 7, 7, 7, 7, 7, 7, 7, 7, 7, 7, 7, 7, 7, 7, 7, 7, 7, 7, 7, 7, 7, 7, 7, 7, 7, 7, 7, 7, 7, 7, 7, 7, 7, 7, 7, 7, 7, 7, 7, 7, 7, 7, 7, 7, 7, 7, 7, 7, 7, 8, 8, 8, 8, 8, 8, 8, 8, 8, 8, 8, 8, 8, 8, 8, 8, 8, 8, 8, 8, 8, 8, 8, 8, 8, 8, 8, 8, 8, 8, 8, 8, 8, 8, 8, 8, 8, 8, 8, 8, 8, 8, 8, 8, 8, 8, 8, 8, 8, 8, 8, 8, 8, 8, 8, 8, 8, 8, 8, 8, 8, 8, 8, 8, 8, 8, 8, 8, 8, 8, 8, 8, 8, 8, 8, 8, 8, 8, 8, 8, 8, 8, 8, 8, 8, 8, 8, 8, 8, 8, 8, 8, 8, 8, 8, 8, 8, 8, 8, 8, 8, 8, 8, 8, 8, 8, 8, 8, 8, 8, 8, 8, 8, 8, 8, 8, 8, 8, 8, 8, 8, 8, 8, 8, 8, 8, 8, 8]⟩
/-- How many bits a number has. -/
def blen (n : Int) : Int := if n ≤ 0 then 0 else (n.toNat.log2 : Int) + 1
theorem TABL_all : ∀ i : Fin 256, bt TABL (i.val : Int) = blen (i.val : Int) := by decide +kernel
theorem TABL_eq (x : Int) (h0 : 0 ≤ x) (h1 : x < 256) : bt TABL x = blen x := by
  have := TABL_all ⟨x.toNat, by omega⟩
  simpa [Int.toNat_of_nonneg h0] using this
theorem blen_small {x : Int} (h0 : 0 ≤ x) (h1 : x < 256) : 0 ≤ blen x ∧ blen x ≤ 8 := by
  unfold blen
  split
  · omega
  · have := (Nat.log2_lt (n := x.toNat) (k := 8) (by omega)).2 (by omega)
    omega
theorem blen_div (x : Int) (j : Nat) (h : (2 : Int) ^ j ≤ x) : blen x = j + blen (x / 2 ^ j) := by
  have hp := pw_pos j
  have hx : 1 ≤ x / 2 ^ j := by rw [Int.le_ediv_iff_mul_le hp]; omega
  unfold blen
  rw [if_neg (by omega), if_neg (by omega)]
  obtain ⟨n, rfl⟩ := Int.eq_ofNat_of_zero_le (show 0 ≤ x by omega)
  have e : ((n : Int) / 2 ^ j).toNat = n / 2 ^ j := by
    rw [show ((2 : Int) ^ j) = ((2 ^ j : Nat) : Int) from by rw [Int.natCast_pow]; rfl, ← Int.natCast_ediv, Int.toNat_natCast]
  have hn : n / 2 ^ j ≠ 0 := by
    intro h0
    rw [← e] at h0
    omega
  rw [e, Int.toNat_natCast]
  have k1 := Nat.log2_self_le hn
  have k2 := Nat.lt_log2_self (n := n / 2 ^ j)
  have : n.log2 = j + (n / 2 ^ j).log2 := by
    rw [Nat.log2_eq_iff (by omega)]
    constructor
    · rw [Nat.pow_add, Nat.mul_comm]
      exact (Nat.le_div_iff_mul_le (Nat.two_pow_pos j)).1 k1
    · rw [show j + (n / 2 ^ j).log2 + 1 = ((n / 2 ^ j).log2 + 1) + j from by omega, Nat.pow_add]
      exact (Nat.div_lt_iff_lt_mul (Nat.two_pow_pos j)).1 k2
  omega
theorem blen_lt {x : Int} (h0 : 0 ≤ x) : x < 2 ^ (blen x).toNat := by
  unfold blen
  split
  · rw [show x = 0 from by omega]; decide
  · obtain ⟨n, rfl⟩ := Int.eq_ofNat_of_zero_le h0
    rw [show (((n : Int).toNat.log2 : Int) + 1).toNat = n.log2 + 1 from by rw [Int.toNat_natCast]; omega]
    have := Nat.lt_log2_self (n := n)
    rw [show ((2 : Int) ^ (n.log2 + 1)) = ((2 ^ (n.log2 + 1) : Nat) : Int) from by rw [Int.natCast_pow]; rfl]
    omega
theorem blen_ge {x : Int} (h : 1 ≤ x) : 1 ≤ blen x ∧ 2 ^ ((blen x).toNat - 1) ≤ x := by
  unfold blen
  rw [if_neg (by omega)]
  obtain ⟨n, rfl⟩ := Int.eq_ofNat_of_zero_le (show 0 ≤ x by omega)
  refine ⟨by omega, ?_⟩
  rw [show (((n : Int).toNat.log2 : Int) + 1).toNat - 1 = n.log2 from by rw [Int.toNat_natCast]; omega]
  have := Nat.log2_self_le (n := n) (by omega)
  rw [show ((2 : Int) ^ n.log2) = ((2 ^ n.log2 : Nat) : Int) from by rw [Int.natCast_pow]; rfl]
  omega
theorem blen_le {x : Int} {j : Nat} (h0 : 0 ≤ x) (h : x < 2 ^ j) : 0 ≤ blen x ∧ blen x ≤ j := by
  unfold blen
  split
  · omega
  · obtain ⟨n, rfl⟩ := Int.eq_ofNat_of_zero_le h0
    rw [Int.toNat_natCast]
    have : n.log2 < j := (Nat.log2_lt (by omega)).2 (by rw [show ((2 : Int) ^ j) = ((2 ^ j : Nat) : Int) from by rw [Int.natCast_pow]; rfl] at h; omega)
    omega

theorem len32_eq (a0 : Int) : bits_Len32.f a0 = (if a0 ≥ 65536 then (if (a0 / 65536) ≥ 256 then (if 0 ≤ (((a0 / 65536) / 256) % 256) then (if (((a0 / 65536) / 256) % 256) < 256 then (some (wrap64 ((16 + 8) + (wrap64 (bt TABL (((a0 / 65536) / 256) % 256)))))) else (none)) else (none)) else (if 0 ≤ ((a0 / 65536) % 256) then (if ((a0 / 65536) % 256) < 256 then (some (wrap64 (16 + (wrap64 (bt TABL ((a0 / 65536) % 256)))))) else (none)) else (none))) else (if a0 ≥ 256 then (if 0 ≤ ((a0 / 256) % 256) then (if ((a0 / 256) % 256) < 256 then (some (wrap64 (8 + (wrap64 (bt TABL ((a0 / 256) % 256)))))) else (none)) else (none)) else (if 0 ≤ ((a0) % 256) then (if ((a0) % 256) < 256 then (some (wrap64 (0 + wrap64 (bt TABL ((a0) % 256))))) else (none)) else (none)))) := by
  first | rfl | (rw [Int.zero_add]; rfl)
theorem len32 (x : Int) (h0 : 0 ≤ x) (h1 : x < 4294967296) : bits_Len32.f x = some (blen x) := by
  have core : ∀ y t : Int, 0 ≤ y → y < 256 → 0 ≤ t → t ≤ 56 → (if 0 ≤ y % 256 then (if y % 256 < 256 then some (wrap64 (t + wrap64 (bt TABL (y % 256)))) else none) else none) = some (t + blen y) := by
    intro y t hy0 hy1 ht0 ht1
    have hb := blen_small hy0 hy1
    rw [if_pos (by omega), if_pos (by omega), show y % 256 = y from by omega, TABL_eq y hy0 hy1, w64 (x := blen y) (by omega) (by omega), w64 (by omega) (by omega)]
  rw [len32_eq]
  by_cases ha : x ≥ 65536
  · rw [if_pos ha]
    have d1 := blen_div x 16 (by omega)
    rw [show ((2 : Int) ^ 16) = 65536 from by decide] at d1
    by_cases hb : x / 65536 ≥ 256
    · rw [if_pos hb]
      have d2 := blen_div (x / 65536) 8 (by omega)
      rw [show ((2 : Int) ^ 8) = 256 from by decide] at d2
      refine (core (x / 65536 / 256) (16 + 8) (by omega) (by omega) (by omega) (by omega)).trans ?_
      congr 1; omega
    · rw [if_neg hb]
      refine (core (x / 65536) 16 (by omega) (by omega) (by omega) (by omega)).trans ?_
      congr 1; omega
  · rw [if_neg ha]
    by_cases hb : x ≥ 256
    · rw [if_pos hb]
      have d2 := blen_div x 8 (by omega)
      rw [show ((2 : Int) ^ 8) = 256 from by decide] at d2
      refine (core (x / 256) 8 (by omega) (by omega) (by omega) (by omega)).trans ?_
      congr 1; omega
    · rw [if_neg hb]
      refine (core x 0 h0 (by omega) (by omega) (by omega)).trans ?_
      congr 1; omega

/-- How many bits a number has, without its sign. -/
def mag (x : Int) : Int := blen (x.natAbs : Int)
def I32 (x : Int) : Prop := -2147483648 ≤ x ∧ x < 2147483648
theorem mag_mx (x : Int) (h : I32 x) : bits_Len32.f ((mx x (wrap32 (-x))) % 4294967296) = some (mag x) := by
  unfold I32 at h
  have e : (mx x (wrap32 (-x))) % 4294967296 = (x.natAbs : Int) := by unfold mx wrap32; split <;> omega
  rw [e, len32 _ (by omega) (by omega)]; rfl
theorem rd_nat (l : List Int) (i : Nat) (h : i < l.length) : rd l (i : Int) = l[i] := by
  unfold rd
  rw [Int.toNat_natCast, List.getD_eq_getElem?_getD, List.getElem?_eq_getElem h]; rfl
theorem set_same (l : List Int) (i : Nat) (h : i < l.length) : l.set i (rd l (i : Int)) = l := by
  rw [rd_nat l i h]; exact List.set_getElem_self h
theorem rd_set (l : List Int) (i : Nat) (v : Int) (h : i < l.length) : rd (l.set i v) (i : Int) = v := by
  rw [rd_nat _ i (by simpa using h)]; simp
/-- The greatest of some numbers' bits, from one on. -/
def most (l : List Int) (m : Int) : Int := l.foldl (fun m x => mx m (mag x)) m
/-- The bands' edges. -/
def edges : List Int := [0, 4, 8, 12, 16, 20, 24, 28, 32, 40, 48, 56, 64, 80, 96, 112, 128, 160, 192, 256, 352, 512]
def edge (i : Nat) : Nat := (edges.getD i 0).toNat
theorem edges_ok : ∀ i : Fin 22, rd edges (i.val : Int) = (edge i.val : Int) ∧ edge i.val ≤ 512 := by decide
theorem edges_up : ∀ i : Fin 21, edge i.val ≤ edge (i.val + 1) := by decide
/-- A band's ceiling, in its place. -/
def one (l : List Int) (out : List Int) (i : Nat) : List Int := out.set i (most ((l.take (edge (i + 1))).drop (edge i)) (rd out (i : Int)))
def ceilsFrom (l : List Int) : Nat → List Int → Nat → List Int
  | 0, out, _ => out
  | d + 1, out, i => ceilsFrom l d (one l out i) (i + 1)
/-- The ceilings of 512 lines. -/
def ceils (l : List Int) : List Int := ceilsFrom l 21 (List.replicate 21 0) 0
theorem most_bd (s : List Int) (hs : ∀ x ∈ s, I32 x) : ∀ m : Int, 0 ≤ m → m ≤ 32 → 0 ≤ most s m ∧ most s m ≤ 32 := by
  induction s with
  | nil => intro m h0 h1; exact ⟨h0, h1⟩
  | cons x s ih =>
    intro m h0 h1
    have hx := hs x (by simp)
    unfold I32 at hx
    have hb : 0 ≤ mag x ∧ mag x ≤ 32 := blen_le (j := 32) (by omega) (by omega)
    have : most (x :: s) m = most s (mx m (mag x)) := rfl
    rw [this]
    refine ih (fun y hy => hs y (by simp [hy])) _ ?_ ?_ <;> (unfold mx; split <;> omega)
theorem ceilsFrom_len (l : List Int) (d : Nat) : ∀ (out : List Int) (i : Nat), (ceilsFrom l d out i).length = out.length := by
  induction d with
  | zero => intro out i; rfl
  | succ d ih => intro out i; show (ceilsFrom l d (one l out i) (i + 1)).length = _; rw [ih]; unfold one; simp
theorem ceils_len (l : List Int) : (ceils l).length = 21 := by unfold ceils; rw [ceilsFrom_len]; simp

theorem len32_calls (x : Int) (h : I32 x) (w : World) : Calls Try.prog 56 #[.int .u32 ((mx x (wrap32 (-x))) % 4294967296)] w fun e w' => e = .returned (.int .i64 (mag x)) ∧ ∃ m, w' = w.drewN m :=
  (bits_Len32.calls _ (mag x) w (mag_mx x h)).mono fun _ _ ⟨he, m, hm⟩ => ⟨he, m, hm⟩
theorem len32_calls' (x : Int) (h : I32 x) (w : World) : Calls Try.prog 56 #[.int .u32 (IntKind.u32.wrap (if x < IntKind.i32.wrap (-x) then IntKind.i32.wrap (-x) else x))] w fun e w' => e = .returned (.int .i64 (mag x)) ∧ ∃ m, w' = w.drewN m := by
  have e : IntKind.u32.wrap (if x < IntKind.i32.wrap (-x) then IntKind.i32.wrap (-x) else x) = (mx x (wrap32 (-x))) % 4294967296 := by
    have h1 : IntKind.i32.wrap (-x) = wrap32 (-x) := by
      unfold IntKind.wrap wrap32
      simp only [IntKind.bits, IntKind.signed]
      simp
      split <;> omega
    have h2 : ∀ n : Int, IntKind.u32.wrap n = n % 4294967296 := fun n => rfl
    rw [h1, h2]; rfl
  rw [e]; exact len32_calls x h w
theorem edges_calls (w : World) : Calls Try.prog 47 #[] w fun e w' => ∃ g cap, e = .returned (.slice (some ⟨g, 0, none⟩) 22 cap) ∧ w.heap.size ≤ g ∧ RowI w' 3 .i64 g cap edges ∧ Below w.heap.size w w' :=
  (PBandsEdges.bands_Edges.calls edges w rfl).mono fun e w' ⟨v, he, hr, hb⟩ => by
    obtain ⟨g, cap, hv, hg, hrow⟩ := rowI_of_R hr (by decide)
    exact ⟨g, cap, by rw [he, hv]; rfl, hg, hrow, hb⟩
theorem edges_lt : ∀ i : Fin 21, edge i.val < edge (i.val + 1) := by decide
/-- What the outer loop has: the ceilings of the first k bands. -/
def after (l : List Int) : Nat → List Int
  | 0 => List.replicate 21 0
  | k + 1 => one l (after l k) k
theorem after_len (l : List Int) (k : Nat) : (after l k).length = 21 := by
  induction k with
  | zero => simp [after]
  | succ k ih => show (one l (after l k) k).length = 21; unfold one; simpa using ih
theorem after_from (l : List Int) (d : Nat) : ∀ k, ceilsFrom l d (after l k) k = after l (k + d) := by
  induction d with
  | zero => intro k; rfl
  | succ d ih => intro k; show ceilsFrom l d (after l (k + 1)) (k + 1) = _; rw [ih, show k + 1 + d = k + (d + 1) from by omega]
theorem after_all (l : List Int) : after l 21 = ceils l := by
  have := after_from l 21 0
  rw [show (0 : Nat) + 21 = 21 from rfl] at this
  exact this.symm
theorem addr_block (a : Addr) (n : Nat) : (a.add n).block = a.block := by unfold Addr.add; split <;> rfl
theorem addr_add (a : Addr) (i j : Nat) : (a.add i).add j = a.add (i + j) := by
  unfold Addr.add
  by_cases hi : i = 0 <;> by_cases hj : j = 0 <;> simp [hi, hj, Nat.add_assoc]
/-- What the inner loop has behind j lines. -/
def inn (l : List Int) (lo hi : Nat) (out : List Int) (k j : Nat) : List Int := out.set k (most (((l.take hi).drop lo).take j) (rd out (k : Int)))
theorem inn_len (l : List Int) (lo hi : Nat) (out : List Int) (k j : Nat) : (inn l lo hi out k j).length = out.length := by unfold inn; simp
theorem inn_zero (l : List Int) (lo hi : Nat) (out : List Int) (k : Nat) (h : k < out.length) : inn l lo hi out k 0 = out := by
  unfold inn most
  rw [List.take_zero, List.foldl_nil, set_same _ _ h]
theorem inn_step (l : List Int) (lo hi : Nat) (out : List Int) (k j : Nat) (h1 : hi ≤ l.length) (h2 : j < hi - lo) (h3 : lo + j < l.length) (h4 : k < out.length) :
    (inn l lo hi out k j).set k (mx ((inn l lo hi out k j)[k]'(by rw [inn_len]; exact h4)) (mag l[lo + j])) = inn l lo hi out k (j + 1) := by
  unfold inn
  rw [List.set_set, List.getElem_set_self]
  congr 1
  have e : ((l.take hi).drop lo).take (j + 1) = ((l.take hi).drop lo).take j ++ [l[lo + j]] := by
    have hlen : j < ((l.take hi).drop lo).length := by rw [List.length_drop, List.length_take]; omega
    rw [List.take_succ_eq_append_getElem hlen]
    congr 2
    rw [List.getElem_drop, List.getElem_take]
  rw [e]
  unfold most
  rw [List.foldl_append]; rfl
theorem inn_all (l : List Int) (k : Nat) (h : edge (k + 1) ≤ l.length) (out : List Int) : inn l (edge k) (edge (k + 1)) out k (edge (k + 1) - edge k) = one l out k := by
  unfold inn one
  rw [List.take_of_length_le]
  rw [List.length_drop, List.length_take]; omega
attribute [local go_sem] max2_int min2_int max_two min_two
set_option maxHeartbeats 4000000 in
set_option maxRecDepth 100000 in
theorem Ceilings_yes (l : List Int) (hl : l.length = 512) (hi : ∀ x ∈ l, I32 x) (A : Option Addr) (c : Nat) (w : World) (hr : (Kd.int .i32).C w A l.length l) (hc : l.length ≤ c) :
    Calls Try.prog 24 #[.slice A l.length c] w fun e w' => ∃ g cap, e = .returned (.tuple #[.slice (some ⟨g, 0, none⟩) 21 cap, .int .i64 0]) ∧ w.heap.size ≤ g ∧ RowI w' 3 .i64 g cap (ceils l) ∧ Below w.heap.size w w' := by
  obtain ⟨ad, rfl, hx0⟩ := cell_C hr (i := 0) (by omega)
  have had : ad.block < w.heap.size := World.block_lt_of_cell? w _ hx0
  clear hx0
  have hm : ∀ w : World, (Instr.makeSlice 41 (.int .i64 21) (.int .i64 21)).run Try.prog w = .ok (.slice (some ⟨w.heap.size, 0, none⟩) 21 21) (w.alloc (.cells (madeCells #[.int .i64 0] 21) 3)) := fun w => run_make_row' 41 3 (.int .i64 0) 8 Try.underlying41 (by kernel_rfl) rfl .i64 .i64 21 (by omega) (by omega) w
  rw [hl] at hc ⊢
  have HR := Lib.hid hr
  have HI := Lib.hid hi
  have HL := Lib.hid hl
  clear hr hi hl
  go_enter Try.func24, Try.ntmps24
  go_wp2_with (go_at_call 47; refine (edges_calls _).mono ?_; rintro e w1 ⟨ge, ce, rfl, hge, hre, hb1⟩)
  have hlt := hre.lt
  have hsz := hb1.size
  obtain ⟨G, hG⟩ : ∃ G, w1.heap.size = G := ⟨_, rfl⟩
  have HG := Lib.hid hG
  have HE := Lib.hid (hre.alloc (.cells (madeCells #[.int .i64 0] 21) 3))
  have HO := Lib.hid (RowI.new w1 3 .i64 21 0 (by decide))
  have HB := Lib.hid ((hb1.alloc hsz (.cells (madeCells #[.int .i64 0] 21) 3)))
  rw [hG] at HO
  have hne : ge ≠ w1.heap.size := by omega
  rw [hG] at hne hlt hsz ⊢
  clear hre hb1 hG
  go_loopw [16] (fun i wr => ∃ k : Nat, k ≤ 21 ∧ i = .int .i64 k ∧ Hid (RowI wr 3 .i64 ge ce edges) ∧ Hid (RowI wr 3 .i64 G 21 (after l k)) ∧ Hid (Below w.heap.size w wr)) (fun i _ => 21 - (intOf i).toNat)
  case atStart => exact ⟨0, by omega, rfl, HE, HO, HB⟩
  case round =>
    clear HE HO HB
    obtain ⟨k, hk, rfl, HE, HO, HB⟩ := hrel
    by_cases hlt2 : k < 21
    · have e1 := edges_ok ⟨k, by omega⟩
      have e2 := edges_ok ⟨k + 1, by omega⟩
      have e3 := edges_lt ⟨k, hlt2⟩
      have c1 := HE.out.cell (i := k) (by show k < 22; omega)
      have c2 := HE.out.cell (i := k + 1) (by show k + 1 < 22; omega)
      rw [← rd_nat edges k (by show k < 22; omega), e1.1] at c1
      rw [← rd_nat edges (k + 1) (by show k + 1 < 22; omega), e2.1] at c2
      have h512 := e2.2
      have HLo : ∃ lo hi : Nat, Hid (edge k = lo) ∧ Hid (edge (k + 1) = hi) ∧ lo < hi ∧ hi ≤ 512 ∧ wr.cell? ⟨ge, k, none⟩ = some (.int .i64 (lo : Int)) ∧ wr.cell? ⟨ge, k + 1, none⟩ = some (.int .i64 (hi : Int)) := ⟨_, _, rfl, rfl, e3, h512, c1, c2⟩
      clear e1 e2 e3 c1 c2 h512
      obtain ⟨lo, hi, HLo, HHi, b1, b2, c1, c2⟩ := HLo
      have hcl : ¬ c = lo := by omega
      go_wp2_with fail
      go_quiet (fail)
      go_wp2_with fail
      go_loopw [31] (fun x wq => ∃ j : Nat, j ≤ hi - lo ∧ x = .int .i64 j ∧ Hid (RowI wq 3 .i64 ge ce edges) ∧ Hid (RowI wq 3 .i64 G 21 (inn l lo hi (after l k) k j)) ∧ Hid (Below w.heap.size w wq)) (fun x _ => (hi - lo) - (intOf x).toNat)
      case atStart => exact ⟨0, by omega, rfl, HE.out.drewN _, by rw [inn_zero _ _ _ _ _ (by rw [after_len]; exact hlt2)]; exact HO.out.drewN _, pw_below_drewN HB.out _⟩
      case round =>
        clear HE HO HB c1 c2
        obtain ⟨j, hj, rfl, HE, HO, HB⟩ := hrel
        by_cases hjl : j < hi - lo
        · have hli := inn_len l lo hi (after l k) k j
          rw [after_len] at hli
          have d1 := HO.out.cell (i := k) (by rw [hli]; exact hlt2)
          have f1 := HO.out.free k
          have hx : lo + j < l.length := by rw [HL.out]; omega
          obtain ⟨ad', ha', d2⟩ := cell_C HR.out hx
          cases ha'
          have hxi := HI.out _ (List.getElem_mem hx)
          rw [← HB.out.cell (p := ad.add (lo + j)) (by rw [addr_block]; exact had), ← addr_add] at d2
          have HN := Lib.hid (inn_step l lo hi (after l k) k j (by rw [HL.out]; omega) (by omega) hx (by rw [after_len]; exact hlt2))
          generalize l[lo + j] = x at *
          generalize (inn l lo hi (after l k) k j)[k]'(by rw [hli]; exact hlt2) = m at *
          clear hli
          go_wp2_with fail
          refine region_quiet_tail 14 (by kernel_rfl) (by kernel_rfl) ?_
          simp only [List.take_succ_cons, List.take_zero, List.drop_succ_cons, List.drop_zero]
          repeat (quiet_step ((go_at_call 56; exact Calls.quiet_of (len32_calls' _ hxi _))))
          refine wpQuiet_nil ?_
          rintro _ ⟨nq, rfl⟩
          go_wp2_with fail
          all_goals (
            first
            | (have hmx : mx m (mag x) = m := by unfold mx; split <;> omega)
            | (have hmx : mx m (mag x) = mag x := by unfold mx; split <;> omega)
            have HN2 := HN.out
            rw [hmx] at HN2
            refine ⟨⟨j + 1, by omega, by push_cast; rfl, (HE.out.drewN nq).other hne _, ?_, (pw_below_drewN HB.out nq).setCell hsz _⟩, by simp [intOf]; omega⟩
            rw [← HN2]; exact (HO.out.drewN nq).set k _)
        · have hje : j = hi - lo := by omega
          have hin := inn_all l k (by rw [HL.out, HHi.out]; exact b2) (after l k)
          rw [HLo.out, HHi.out] at hin
          rw [hje, hin] at HO
          go_wp2_with fail
          exact ⟨⟨k + 1, by omega, by push_cast; rfl, HE, HO, HB⟩, by simp [intOf]; omega⟩
    · obtain rfl : k = 21 := by omega
      go_wp2_with fail
      go_ret2
      rw [← after_all]
      exact ⟨G, 21, rfl, hsz, HO.out, HB.out⟩
theorem Ceilings_no (l : List Int) (hl : l.length ≠ 512) (A : Option Addr) (c : Nat) (w : World) :
    Calls Try.prog 24 #[.slice A l.length c] w fun e w' => e = .returned (.tuple #[.slice none 0 0, .int .i64 1]) ∧ w' = w := by
  obtain ⟨n, hn⟩ : ∃ n, l.length = n := ⟨_, rfl⟩
  rw [hn] at hl ⊢
  go_enter Try.func24, Try.ntmps24
  go_wp2
  go_ret2
  exact ⟨rfl, rfl⟩
/-- What energy.Ceilings answers. -/
instance (x : Int) : Decidable (I32 x) := inferInstanceAs (Decidable (_ ∧ _))
def fC (l : List Int) : Option (List Int × Int) := if l.length = 512 then (if ∀ x ∈ l, I32 x then some (ceils l, 0) else none) else some ([], 1)
theorem fC_calls (A : Option Addr) (c : Nat) (l : List Int) (r1 : List Int) (r2 : Int) (w : World) (hr : (Kd.int .i32).C w A l.length l) (hc : l.length ≤ c) (h : fC l = some (r1, r2)) :
    Calls Try.prog 24 #[.slice A l.length c] w fun e w' => ∃ v0_ : Value, e = .returned (.tuple #[v0_, .int .i64 r2]) ∧ Kd.R (Kd.int .i64) 3 w' w.heap.size (fun _ => True) v0_ r1 ∧ Below w.heap.size w w' := by
  unfold fC at h
  split at h
  · rename_i hl
    split at h
    · rename_i hi
      obtain ⟨rfl, rfl⟩ := Prod.mk.inj (Option.some.inj h)
      refine (Ceilings_yes l hl hi A c w hr hc).mono ?_
      rintro e w' ⟨g, cap, rfl, hg, hrow, hb⟩
      refine ⟨_, rfl, ?_, hb⟩
      have := R_of_rowI hrow hg
      rwa [ceils_len] at this
    · cases h
  · rename_i hl
    cases h
    refine (Ceilings_no l hl A c w).mono ?_
    rintro e w' ⟨rfl, rfl⟩
    refine ⟨_, rfl, ?_, Below.refl _ _⟩
    exact Kd.R_of_own (enc := Value.int .i64) (h1 := fun _ => rfl) ⟨rfl, .inl ⟨rfl, rfl⟩⟩ (fun _ _ => trivial)
end Go.Proofs.Ytoooienmcogbhaa.Ceil
