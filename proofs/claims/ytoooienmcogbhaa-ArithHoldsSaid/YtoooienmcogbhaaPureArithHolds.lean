/-
  ArithHolds: any number held to any bits, and any sums, as the reference has them; no condition.
-/
import Derived.Test.YtoooienmcogbhaaPArithHoldsx2
set_option linter.unusedVariables false
set_option linter.unusedSimpArgs false
namespace Go.Proofs.Ytoooienmcogbhaa.Pure
open Go.RowKit Go.Proofs.Ytoooienmcogbhaa.PArithHolds Go.Proofs.YtoooienmcogbhaaW.PrintWords Go.Proofs.YtoooienmcogbhaaW.PrintLast Go.Proofs.YtoooienmcogbhaaW.PrintMore

theorem w64 {x : Int} (h0 : -9223372036854775808 ≤ x) (h1 : x < 9223372036854775808) : wrap64 x = x := by unfold wrap64; omega
theorem w32 {x : Int} (h0 : -2147483648 ≤ x) (h1 : x < 2147483648) : wrap32 x = x := by unfold wrap32; omega
theorem wf_i64 {x : Int} (h : (Lit.int .i64 x).wf = true) : -9223372036854775808 ≤ x ∧ x < 9223372036854775808 := by
  simp [Lit.wf, IntKind.min, IntKind.max, IntKind.signed, IntKind.bits] at h; omega
theorem wf_i32 {x : Int} (h : (Lit.int .i32 x).wf = true) : -2147483648 ≤ x ∧ x < 2147483648 := by
  simp [Lit.wf, IntKind.min, IntKind.max, IntKind.signed, IntKind.bits] at h; omega
theorem wf_u64 {x : Int} (h : (Lit.int .u64 x).wf = true) : 0 ≤ x ∧ x < 18446744073709551616 := by
  simp [Lit.wf, IntKind.min, IntKind.max, IntKind.signed, IntKind.bits] at h; omega
theorem wf_u32 {x : Int} (h : (Lit.int .u32 x).wf = true) : 0 ≤ x ∧ x < 4294967296 := by
  simp [Lit.wf, IntKind.min, IntKind.max, IntKind.signed, IntKind.bits] at h; omega
/-- Powers of two as whole numbers: the greatest that are asked. -/
theorem pw_pos (n : Nat) : (0 : Int) < 2 ^ n := Int.pow_pos (by omega)
theorem pw_succ (n : Nat) : (2 : Int) ^ (n + 1) = 2 * 2 ^ n := by rw [Int.pow_succ]; omega
theorem pw_le {a b : Nat} (h : a ≤ b) : (2 : Int) ^ a ≤ 2 ^ b := by
  induction h with
  | refl => exact Int.le_refl _
  | step _ ih => rw [pw_succ]; have := pw_pos a; omega
theorem pw62 {n : Nat} (h : n ≤ 62) : (2 : Int) ^ n ≤ 4611686018427387904 := pw_le (a := n) (b := 62) h
theorem and_one_i64 (x : Int) : Go.bits .and .i64 x 1 = x % 2 := by
  show IntKind.i64.wrap ((BitVec.ofInt 64 x &&& BitVec.ofInt 64 1).toNat : Int) = _
  have h1 : (BitVec.ofInt 64 1).toNat = 1 := by decide
  have h2 : ((BitVec.ofInt 64 x).toNat : Int) = x % 18446744073709551616 := by
    rw [BitVec.toNat_ofInt, Int.toNat_of_nonneg (Int.emod_nonneg _ (by decide))]; rfl
  rw [BitVec.toNat_and, h1, Nat.and_one_is_mod, IntKind.wrap_i64]
  omega
/-- n divided by 2^by to the nearest, halves upwards. -/
def rnd (n : Int) (by_ : Nat) : Int := if by_ = 0 then n else n / 2 ^ by_ + n / 2 ^ (by_ - 1) % 2
theorem div_bd (n d : Int) (hd : 1 ≤ d) (h0 : -9223372036854775808 ≤ n) (h1 : n < 9223372036854775808) : -9223372036854775808 ≤ n / d ∧ n / d < 9223372036854775808 := by
  constructor
  · rw [Int.le_ediv_iff_mul_le (by omega)]
    have : (-9223372036854775808 : Int) * d ≤ -9223372036854775808 * 1 := Int.mul_le_mul_of_nonpos_left (by decide) hd
    omega
  · rw [Int.ediv_lt_iff_lt_mul (by omega)]
    have : (9223372036854775808 : Int) * 1 ≤ 9223372036854775808 * d := Int.mul_le_mul_of_nonneg_left hd (by decide)
    omega
theorem div2_bd (n d : Int) (hd : 2 ≤ d) (h0 : -9223372036854775808 ≤ n) (h1 : n < 9223372036854775808) : -4611686018427387904 ≤ n / d ∧ n / d < 4611686018427387904 := by
  constructor
  · rw [Int.le_ediv_iff_mul_le (by omega)]
    have : (-4611686018427387904 : Int) * d ≤ -4611686018427387904 * 2 := Int.mul_le_mul_of_nonpos_left (by decide) hd
    omega
  · rw [Int.ediv_lt_iff_lt_mul (by omega)]
    have : (4611686018427387904 : Int) * 2 ≤ 4611686018427387904 * d := Int.mul_le_mul_of_nonneg_left hd (by decide)
    omega
theorem rnd_bd (n : Int) (b : Nat) (h0 : -9223372036854775808 ≤ n) (h1 : n < 9223372036854775808) : -9223372036854775808 ≤ rnd n b ∧ rnd n b < 9223372036854775808 := by
  unfold rnd
  by_cases hb : b = 0
  · rw [if_pos hb]; exact ⟨h0, h1⟩
  · rw [if_neg hb]
    obtain ⟨c, rfl⟩ : ∃ c, b = c + 1 := ⟨b - 1, by omega⟩
    have := div2_bd n (2 ^ (c + 1)) (by rw [pw_succ]; have := pw_pos c; omega) h0 h1
    omega
/-- The least number of so many bits, from 1 to 64. -/
def least (w : Nat) : Int := -2 ^ (w - 1)
/-- n held to w bits; 0, if there are no such bits. -/
def sat (n w : Int) : Int := if w < 1 ∨ 64 < w then 0 else if n < least w.toNat then least w.toNat else if n > -(least w.toNat + 1) then -(least w.toNat + 1) else n
theorem least_bd {w : Nat} (h0 : 1 ≤ w) (h1 : w ≤ 64) : -9223372036854775808 ≤ least w ∧ least w ≤ -1 := by
  unfold least
  have := pw_pos (w - 1)
  have : (2 : Int) ^ (w - 1) ≤ 2 ^ 63 := pw_le (by omega)
  omega
theorem sat_bd (n w : Int) (h0 : -9223372036854775808 ≤ n) (h1 : n < 9223372036854775808) : -9223372036854775808 ≤ sat n w ∧ sat n w < 9223372036854775808 := by
  unfold sat
  by_cases h : w < 1 ∨ 64 < w
  · rw [if_pos h]; omega
  · rw [if_neg h]
    have := least_bd (w := w.toNat) (by omega) (by omega)
    split
    · omega
    · split <;> omega

theorem arith_ends_eq (w : Nat) (h0 : 1 ≤ w) (h1 : w ≤ 64) : arith_ends.f (w : Int) = some (least w, -(least w + 1)) := by
  unfold arith_ends.f
  rw [w64 (by omega) (by omega), if_pos (by omega)]
  have hl := least_bd h0 h1
  have e : wrap64 ((shl .i64 1 ((w : Int) - 1)) - 1) = -(least w + 1) := by
    unfold shl
    rw [show ((w : Int) - 1).toNat = w - 1 from by omega, Nat.min_eq_left (by show w - 1 ≤ 64; omega), IntKind.wrap_i64]
    unfold least at *
    have hp := pw_pos (w - 1)
    generalize (2 : Int) ^ (w - 1) = p at *
    unfold wrap64
    omega
  rw [e, show - -(least w + 1) = least w + 1 from by omega, w64 (x := least w + 1) (by omega) (by omega), w64 (by omega) (by omega)]
  congr 2
  omega
theorem arith_Sat_eq (n w : Int) : arith_Sat.f n w = some (sat n w) := by
  unfold arith_Sat.f sat
  by_cases ha : w < 1
  · rw [if_pos ha, if_pos (by omega)]
  · by_cases hb : w > 64
    · rw [if_neg ha, if_pos hb, if_pos (by omega)]
    · rw [if_neg ha, if_neg hb, if_neg (by omega)]
      obtain ⟨w, rfl⟩ := Int.eq_ofNat_of_zero_le (show 0 ≤ w by omega)
      rw [arith_ends_eq w (by omega) (by omega), Int.toNat_natCast]
      have hl := least_bd (w := w) (by omega) (by omega)
      simp only [Option.bind_some]
      congr 1
      unfold mn mx
      split <;> (try split) <;> (try split) <;> omega

theorem ref_Least_l (d : Nat) : ∀ (k : Nat) (w i : Int), 1 ≤ i → i ≤ w → w ≤ 64 → w - i = d → d < k → sidebandref01_Least.l0 k w (-2 ^ (i.toNat - 1)) i = some (least w.toNat) := by
  induction d with
  | zero =>
    intro k w i h0 h1 h2 hd hk
    obtain ⟨k, rfl⟩ : ∃ m, k = m + 1 := ⟨k - 1, by omega⟩
    simp only [sidebandref01_Least.l0]
    rw [if_neg (by omega), show i = w from by omega]; rfl
  | succ d ih =>
    intro k w i h0 h1 h2 hd hk
    obtain ⟨k, rfl⟩ : ∃ m, k = m + 1 := ⟨k - 1, by omega⟩
    simp only [sidebandref01_Least.l0]
    rw [if_pos (by omega), w64 (x := i + 1) (by omega) (by omega)]
    obtain ⟨j, rfl⟩ : ∃ j : Nat, i = j + 1 := ⟨i.toNat - 1, by omega⟩
    have e : wrap64 (-2 ^ (((j : Int) + 1).toNat - 1) * 2) = -2 ^ (((j : Int) + 1 + 1).toNat - 1) := by
      rw [show ((j : Int) + 1).toNat - 1 = j from by omega, show ((j : Int) + 1 + 1).toNat - 1 = j + 1 from by omega, pw_succ]
      have := pw_pos j
      have : (2 : Int) ^ j ≤ 2 ^ 62 := pw_le (by omega)
      rw [w64 (by omega) (by omega)]; omega
    rw [e]
    exact ih k w _ (by omega) (by omega) h2 (by omega) (by omega)
theorem ref_Least_eq (k : Nat) (hk : 64 ≤ k) (w : Nat) (h0 : 1 ≤ w) (h1 : w ≤ 64) : sidebandref01_Least.f k (w : Int) = some (least w) := by
  unfold sidebandref01_Least.f
  have := ref_Least_l (w - 1) k w 1 (by omega) (by omega) (by omega) (by omega) (by omega)
  simpa using this
theorem ref_Sat_eq (k : Nat) (hk : 65 ≤ k) (n w : Int) : sidebandref01_Sat.f k n w = some (sat n w) := by
  obtain ⟨k, rfl⟩ : ∃ m, k = m + 1 := ⟨k - 1, by omega⟩
  simp only [sidebandref01_Sat.f, sidebandref01_Sat.j0]
  unfold sat
  by_cases ha : w < 1
  · rw [if_pos ha, if_pos trivial, if_pos (by omega)]
  · by_cases hb : w > 64
    · rw [if_neg ha, if_pos (by simp; omega), if_pos (by omega)]
    · rw [if_neg ha, if_neg (by simp; omega), if_neg (by omega)]
      obtain ⟨w, rfl⟩ := Int.eq_ofNat_of_zero_le (show 0 ≤ w by omega)
      rw [ref_Least_eq k (by omega) w (by omega) (by omega), Int.toNat_natCast]
      have hl := least_bd (w := w) (by omega) (by omega)
      simp only [Option.bind_some]
      rw [w64 (x := least w + 1) (by omega) (by omega), w64 (by omega) (by omega)]
      split
      · rfl
      · split <;> rfl

theorem lives_k (k : Nat) (hk : 40 ≤ k) : sidebandlaw01_lives.f k = some true :=
  at_rounds (g := fun k => sidebandlaw01_lives.f k) (fun k => sidebandlaw01_lives.mono k) hk (by decide +kernel)

/-- The sum, held to sixty-four bits at each number. -/
def step64 (s n : Int) : Int := if s + n > 9223372036854775807 then 9223372036854775807 else if s + n < -9223372036854775808 then -9223372036854775808 else s + n
def I64 (x : Int) : Prop := -9223372036854775808 ≤ x ∧ x < 9223372036854775808
theorem step_bd (s n : Int) (h : I64 s) : I64 (step64 s n) := by unfold step64 I64 at *; split <;> (try split) <;> omega
theorem rd_in (l : List Int) (i : Nat) (hl : ∀ x ∈ l, I64 x) : I64 (rd l (i : Int)) := by
  unfold rd
  rw [Int.toNat_natCast]
  by_cases h : i < l.length
  · rw [List.getD_eq_getElem?_getD, List.getElem?_eq_getElem h]; exact hl _ (List.getElem_mem h)
  · rw [List.getD_eq_getElem?_getD, List.getElem?_eq_none (by omega)]; unfold I64; simp
def sum64 (l : List Int) : Nat → Int → Nat → Int
  | 0, s, _ => s
  | d + 1, s, i => sum64 l d (step64 s (rd l (i : Int))) (i + 1)
theorem add_l (l : List Int) (hl : ∀ x ∈ l, I64 x) (hn : l.length ≤ 100) (d : Nat) : ∀ (k : Nat) (s : Int) (i : Nat), I64 s → i + d = l.length → 2 * d < k → arith_Add.l0 k s l (l.length : Int) (i : Int) = some (sum64 l d s i) := by
  induction d with
  | zero =>
    intro k s i hs hd hk
    obtain ⟨k, rfl⟩ : ∃ m, k = m + 1 := ⟨k - 1, by omega⟩
    simp only [arith_Add.l0]
    rw [if_neg (by omega)]; rfl
  | succ d ih =>
    intro k s i hs hd hk
    obtain ⟨k, rfl⟩ : ∃ m, k = m + 2 := ⟨k - 2, by omega⟩
    simp only [arith_Add.l0]
    rw [if_pos (by omega), if_pos (by omega), if_pos (by omega)]
    have hr := rd_in l i hl
    have := arith_ends_eq 64 (by decide) (by decide)
    rw [show ((64 : Nat) : Int) = 64 from rfl] at this
    rw [this]
    simp only [Option.bind_some]
    rw [show -(least 64 + 1) = 9223372036854775807 from by decide, show least 64 = -9223372036854775808 from by decide]
    have go : ∀ t : Int, t = step64 s (rd l (i : Int)) → arith_Add.l0 k t l (l.length : Int) ((i : Int) + 1) = some (sum64 l (d + 1) s i) := by
      intro t ht
      subst ht
      exact ih k _ (i + 1) (step_bd _ _ hs) (by omega) (by omega)
    rw [show ((i : Int) + 1) = wrap64 ((i : Int) + 1) from (w64 (by omega) (by omega)).symm] at go
    generalize hx : rd l (i : Int) = x at *
    unfold I64 at hs hr
    unfold step64 at go
    obtain ⟨e, he⟩ : ∃ e, wrap64 (s + x) = e := ⟨_, rfl⟩
    rw [he]
    unfold wrap64 at he
    by_cases h1 : s > 0
    · by_cases h2 : x > 0
      · rw [if_pos h1, if_pos h2]
        simp only [arith_Add.j1]
        by_cases h3 : e < 0
        · rw [if_pos (by simpa using h3)]
          exact go _ (by rw [if_pos (by omega)])
        · rw [if_neg (by simpa using h3), if_neg (by omega)]
          exact go _ (by rw [if_neg (by omega), if_neg (by omega)]; omega)
      · rw [if_pos h1, if_neg h2]
        simp only [arith_Add.j1, if_false, Bool.false_eq_true]
        rw [if_neg (by omega)]
        exact go _ (by rw [if_neg (by omega), if_neg (by omega)]; omega)
    · rw [if_neg h1]
      simp only [arith_Add.j1, if_false, Bool.false_eq_true]
      by_cases h4 : s < 0
      · rw [if_pos h4]
        by_cases h5 : x < 0
        · rw [if_pos h5]
          by_cases h6 : e ≥ 0
          · rw [if_pos h6]
            exact go _ (by rw [if_neg (by omega), if_pos (by omega)])
          · rw [if_neg h6]
            exact go _ (by rw [if_neg (by omega), if_neg (by omega)]; omega)
        · rw [if_neg h5]
          exact go _ (by rw [if_neg (by omega), if_neg (by omega)]; omega)
      · rw [if_neg h4]
        exact go _ (by rw [if_neg (by omega), if_neg (by omega)]; omega)
theorem ref_add_l (l : List Int) (hl : ∀ x ∈ l, I64 x) (hn : l.length ≤ 100) (d : Nat) : ∀ (k : Nat) (s : Int) (i : Nat), I64 s → i + d = l.length → 2 * d < k → sidebandref01_Add.l0 k l s (-9223372036854775808) (i : Int) = some (sum64 l d s i) := by
  induction d with
  | zero =>
    intro k s i hs hd hk
    obtain ⟨k, rfl⟩ : ∃ m, k = m + 1 := ⟨k - 1, by omega⟩
    simp only [sidebandref01_Add.l0]
    rw [if_neg (by omega)]; rfl
  | succ d ih =>
    intro k s i hs hd hk
    obtain ⟨k, rfl⟩ : ∃ m, k = m + 2 := ⟨k - 2, by omega⟩
    simp only [sidebandref01_Add.l0]
    rw [if_pos (by omega), if_pos (by omega)]
    have hr := rd_in l i hl
    have go : ∀ t : Int, t = step64 s (rd l (i : Int)) → sidebandref01_Add.l0 k l t (-9223372036854775808) ((i : Int) + 1) = some (sum64 l (d + 1) s i) := by
      intro t ht
      subst ht
      exact ih k _ (i + 1) (step_bd _ _ hs) (by omega) (by omega)
    rw [show ((i : Int) + 1) = wrap64 ((i : Int) + 1) from (w64 (by omega) (by omega)).symm] at go
    generalize hx : rd l (i : Int) = x at *
    unfold I64 at hs hr
    unfold step64 at go
    rw [show wrap64 (-wrap64 (-9223372036854775808 + 1)) = 9223372036854775807 from by unfold wrap64; omega]
    obtain ⟨e, he⟩ : ∃ e, wrap64 (s + x) = e := ⟨_, rfl⟩
    obtain ⟨f, hf⟩ : ∃ f, wrap64 (9223372036854775807 - x) = f := ⟨_, rfl⟩
    obtain ⟨g, hg⟩ : ∃ g, wrap64 (-9223372036854775808 - x) = g := ⟨_, rfl⟩
    rw [hf]
    have he' := he
    have hg' := hg
    unfold wrap64 at he' hf hg'
    by_cases h2 : x > 0
    · rw [if_pos h2]
      simp only [sidebandref01_Add.j1]
      by_cases h3 : s > f
      · rw [if_pos (by simpa using h3)]
        exact go _ (by rw [if_pos (by omega)]; unfold wrap64; omega)
      · rw [if_neg (by simpa using h3), if_neg (by omega)]
        exact go _ (by rw [if_neg (by omega), if_neg (by omega)]; omega)
    · rw [if_neg h2]
      simp only [sidebandref01_Add.j1, if_false, Bool.false_eq_true]
      by_cases h5 : x < 0
      · rw [if_pos h5]
        rw [hg]
        by_cases h6 : s < g
        · rw [if_pos h6]
          exact go _ (by rw [if_neg (by omega), if_pos (by omega)])
        · rw [if_neg h6]
          exact go _ (by rw [if_neg (by omega), if_neg (by omega)]; omega)
      · rw [if_neg h5]
        exact go _ (by rw [if_neg (by omega), if_neg (by omega)]; omega)
theorem ArithHolds : sidebandlaw01_ArithHolds.Pure := by
  intro n w l hn hw hl1 hl2 hl
  refine ⟨301, ?_⟩
  unfold sidebandlaw01_ArithHolds.f
  rw [lives_k _ (by omega)]
  simp only [Option.bind_some, if_true]
  show sidebandlaw01_ArithHolds.j0 (300 + 1) _ _ _ _ = _
  simp only [sidebandlaw01_ArithHolds.j0]
  by_cases h : (l.length : Int) > 100
  · rw [if_pos (by simpa using h), lives_k _ (by omega)]; rfl
  · rw [if_neg (by simpa using h)]
    have hl' : ∀ x ∈ l, I64 x := fun x hx => wf_i64 (hl x hx)
    rw [arith_Sat_eq, arith_Sat_eq, ref_Sat_eq 300 (by omega), ref_Sat_eq 300 (by omega)]
    unfold arith_Add.f sidebandref01_Add.f
    have e := ref_Least_eq 300 (by omega) 64 (by decide) (by decide)
    rw [show ((64 : Nat) : Int) = 64 from rfl, show least 64 = -9223372036854775808 from by decide] at e
    have e1 := add_l l hl' (by omega) l.length 300 0 0 (by unfold I64; omega) (by omega) (by omega)
    have e2 := ref_add_l l hl' (by omega) l.length 300 0 0 (by unfold I64; omega) (by omega) (by omega)
    rw [show ((0 : Nat) : Int) = 0 from rfl] at e1 e2
    rw [e, e1]
    simp only [Option.bind_some, if_true]
    rw [e2]
    simp

end Go.Proofs.Ytoooienmcogbhaa.Pure
