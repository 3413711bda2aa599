/- Texts of this session, merged. -/
import Derived.Test.YtlbjoflmfboeeaaMea2
import Derived.RowKit
/-
  Digits to the base 256: sums, and what goes over. Plain theorems; no condition but those told.
-/
set_option linter.unusedVariables false
namespace Go.Proofs.Ytlbjoflmfboeeaa.Dig

/-- The number that digits are. -/
def vl (D : List Int) : Int := D.foldl (fun a x => a * 256 + x) 0
theorem foldl_vl (a : Int) (D : List Int) : D.foldl (fun a x => a * 256 + x) a = a * 256 ^ D.length + vl D := by
  induction D generalizing a with
  | nil => simp [vl]
  | cons x l ih =>
    have h1 := ih (a * 256 + x)
    have h2 := ih (0 * 256 + x)
    unfold vl
    simp only [List.foldl_cons, List.length_cons]
    rw [h1, h2, Int.pow_succ, Int.add_mul, Int.mul_assoc]
    simp only [Int.zero_mul, Int.zero_add]
    rw [Int.mul_comm 256]
    omega
theorem vl_append (A B : List Int) : vl (A ++ B) = vl A * 256 ^ B.length + vl B := by
  unfold vl
  rw [List.foldl_append, foldl_vl]; rfl
theorem vl_nil : vl [] = 0 := rfl
theorem vl_one (x : Int) : vl [x] = x := by simp [vl]
theorem vl_cons (x : Int) (l : List Int) : vl (x :: l) = x * 256 ^ l.length + vl l := by
  have := vl_append [x] l
  rw [vl_one] at this
  exact this
theorem vl_snoc (l : List Int) (x : Int) : vl (l ++ [x]) = vl l * 256 + x := by
  rw [vl_append, vl_one]; simp
theorem pow_pos256 (n : Nat) : (0 : Int) < 256 ^ n := Int.pow_pos (by omega)
theorem vl_nonneg (D : List Int) (h : ∀ x ∈ D, 0 ≤ x) : 0 ≤ vl D := by
  induction D with
  | nil => exact Int.le_refl 0
  | cons x l ih =>
    rw [vl_cons]
    have h1 := ih fun y hy => h y (List.mem_cons_of_mem _ hy)
    have h2 := h x (List.mem_cons_self ..)
    have h3 := Int.mul_nonneg h2 (Int.le_of_lt (pow_pos256 l.length))
    omega
theorem vl_lt (D : List Int) (h : ∀ x ∈ D, 0 ≤ x ∧ x ≤ 255) : vl D < 256 ^ D.length := by
  induction D with
  | nil => simp [vl]
  | cons x l ih =>
    rw [vl_cons]
    have h1 := ih fun y hy => h y (List.mem_cons_of_mem _ hy)
    have h2 := h x (List.mem_cons_self ..)
    have h3 : x * 256 ^ l.length ≤ 255 * 256 ^ l.length := Int.mul_le_mul_of_nonneg_right h2.2 (Int.le_of_lt (pow_pos256 _))
    rw [List.length_cons, Int.pow_succ]
    omega
/-- Digits are told by the number. -/
theorem vl_inj (A B : List Int) (hl : A.length = B.length) (ha : ∀ x ∈ A, 0 ≤ x ∧ x ≤ 255) (hb : ∀ x ∈ B, 0 ≤ x ∧ x ≤ 255) (h : vl A = vl B) : A = B := by
  induction A generalizing B with
  | nil => cases B with
    | nil => rfl
    | cons y m => simp at hl
  | cons x l ih =>
    cases B with
    | nil => simp at hl
    | cons y m =>
      have hlm : l.length = m.length := by simpa using hl
      rw [vl_cons, vl_cons, hlm] at h
      have h1 := vl_lt l fun z hz => ha z (List.mem_cons_of_mem _ hz)
      have h2 := vl_lt m fun z hz => hb z (List.mem_cons_of_mem _ hz)
      have h3 := vl_nonneg l fun z hz => (ha z (List.mem_cons_of_mem _ hz)).1
      have h4 := vl_nonneg m fun z hz => (hb z (List.mem_cons_of_mem _ hz)).1
      rw [hlm] at h1
      have hp := pow_pos256 m.length
      generalize (256 : Int) ^ m.length = p at *
      have hxy : x = y := by
        rcases Int.lt_trichotomy x y with hlt | heq | hgt
        · have : (x + 1) * p ≤ y * p := Int.mul_le_mul_of_nonneg_right (by omega) (by omega)
          rw [Int.add_mul] at this; omega
        · exact heq
        · have : (y + 1) * p ≤ x * p := Int.mul_le_mul_of_nonneg_right (by omega) (by omega)
          rw [Int.add_mul] at this; omega
      subst hxy
      rw [ih m hlm (fun z hz => ha z (List.mem_cons_of_mem _ hz)) (fun z hz => hb z (List.mem_cons_of_mem _ hz)) (by omega)]
theorem vl_set (D : List Int) (i : Nat) (hi : i < D.length) (x : Int) : vl (D.set i x) = vl D + (x - D[i]) * 256 ^ (D.length - 1 - i) := by
  induction D generalizing i with
  | nil => simp at hi
  | cons y l ih =>
    cases i with
    | zero =>
      simp only [List.set_cons_zero, List.getElem_cons_zero, List.length_cons, Nat.add_sub_cancel, Nat.sub_zero]
      rw [vl_cons, vl_cons, Int.sub_mul]
      omega
    | succ i =>
      simp only [List.set_cons_succ, List.getElem_cons_succ, List.length_cons, Nat.add_sub_cancel]
      have := ih i (by simpa using hi)
      rw [vl_cons, vl_cons, this, List.length_set, show l.length - (i + 1) = l.length - 1 - i from by omega]
      omega
/-- A number is added to the last digits, none is carried. -/
def addF : Nat → List Int → Nat → Int → List Int
  | 0, D, _, _ => D
  | n + 1, D, K, a => addF n (D.set (K + n) (D.getD (K + n) 0 + a % 256)) K (a / 256)
/-- What is above 255 goes over, from place n down. -/
def carF : Nat → List Int → Nat → List Int
  | 0, D, _ => D
  | i + 1, D, K => if K ≤ i + 1 ∨ 255 < D.getD (i + 1) 0 then carF i (if 255 < D.getD (i + 1) 0 then (D.set (i + 1) (D.getD (i + 1) 0 - 256)).set i (D.getD i 0 + 1) else D) K else D
theorem getD_get (D : List Int) (i : Nat) (h : i < D.length) : D.getD i 0 = D[i] := by rw [List.getD_eq_getElem?_getD, List.getElem?_eq_getElem h]; rfl
theorem vl_put (D : List Int) (i : Nat) (hi : i < D.length) (x : Int) (e : Nat) (he : D.length - 1 - i = e) : vl (D.set i x) = vl D + (x - D.getD i 0) * 256 ^ e := by
  subst he
  rw [vl_set D i hi, getD_get D i hi]
theorem getD_put (D : List Int) (i j : Nat) (h : j ≠ i) (x : Int) : (D.set j x).getD i 0 = D.getD i 0 := by
  rw [List.getD_eq_getElem?_getD, List.getD_eq_getElem?_getD, List.getElem?_set_ne h]
theorem addF_len (n : Nat) : ∀ (D : List Int) (K : Nat) (a : Int), (addF n D K a).length = D.length := by
  induction n with
  | zero => intro D K a; rfl
  | succ n ih => intro D K a; unfold addF; rw [ih]; simp
theorem carF_len (n : Nat) : ∀ (D : List Int) (K : Nat), (carF n D K).length = D.length := by
  induction n with
  | zero => intro D K; rfl
  | succ n ih => intro D K; unfold carF; split <;> (try split) <;> simp [ih]
theorem addF_vl (n : Nat) (hn : n ≤ 4) : ∀ (D : List Int) (K : Nat) (a : Int), D.length = K + 4 → 0 ≤ a → a < 256 ^ n → vl (addF n D K a) = vl D + a * 256 ^ (4 - n) := by
  induction n with
  | zero =>
    intro D K a hl h0 h1
    have : a = 0 := by simp at h1; omega
    subst this
    simp [addF]
  | succ n ih =>
    intro D K a hl h0 h1
    unfold addF
    rw [ih (by omega) _ _ _ (by simpa using hl) (by omega) (by rw [Int.pow_succ] at h1; exact Int.ediv_lt_of_lt_mul (by omega) h1), vl_put D (K + n) (by omega) _ (4 - (n + 1)) (by omega), show 4 - n = 4 - (n + 1) + 1 from by omega, Int.pow_succ]
    have e : a = a % 256 + a / 256 * 256 := by omega
    generalize (256 : Int) ^ (4 - (n + 1)) = p
    have h5 : a * p = (a % 256 + a / 256 * 256) * p := by rw [← e]
    rw [h5, Int.add_mul, show D.getD (K + n) 0 + a % 256 - D.getD (K + n) 0 = a % 256 from by omega, Int.mul_assoc, Int.mul_comm 256 p]
    omega
theorem carF_vl (n : Nat) : ∀ (D : List Int) (K : Nat), n < D.length → vl (carF n D K) = vl D := by
  induction n with
  | zero => intro D K h; rfl
  | succ i ih =>
    intro D K h
    unfold carF
    by_cases hc : K ≤ i + 1 ∨ 255 < D.getD (i + 1) 0
    · rw [if_pos hc]
      by_cases h2 : 255 < D.getD (i + 1) 0
      · rw [if_pos h2, ih _ _ (by simp; omega), vl_put _ i (by simp; omega) _ (D.length - 1 - (i + 1) + 1) (by simp; omega), vl_put D (i + 1) h _ (D.length - 1 - (i + 1)) rfl, getD_put D i (i + 1) (by omega), Int.pow_succ]
        generalize (256 : Int) ^ (D.length - 1 - (i + 1)) = p
        rw [show D.getD (i + 1) 0 - 256 - D.getD (i + 1) 0 = -256 from by omega, show D.getD i 0 + 1 - D.getD i 0 = 1 from by omega]
        omega
      · rw [if_neg h2, ih _ _ (by omega)]
    · rw [if_neg hc]
/-- What holds of digits while they are carried: from i down. -/
structure Mid (D : List Int) (K i : Nat) : Prop where
  low : ∀ x ∈ D, 0 ≤ x
  hi : ∀ j (h : j < D.length), i < j → D[j] ≤ 255
  at_ : ∀ (h : i < D.length), D[i] ≤ 511
  lt : ∀ j (h : j < D.length), j < i → D[j] ≤ 510
  far : ∀ j (h : j < D.length), j < i → j < K → D[j] ≤ 255
theorem Mid.step {D : List Int} {K i : Nat} (h : Mid D K (i + 1)) (hl : i + 1 < D.length) (h2 : 255 < D.getD (i + 1) 0) : Mid ((D.set (i + 1) (D.getD (i + 1) 0 - 256)).set i (D.getD i 0 + 1)) K i := by
  rw [getD_get _ _ hl] at h2 ⊢
  rw [getD_get _ _ (show i < D.length by omega)]
  have h511 := h.at_ hl
  have hi510 := h.lt i (by omega) (by omega)
  have hi0 := h.low _ (List.getElem_mem (show i < D.length by omega))
  refine ⟨fun x hx => ?_, fun j hj hij => ?_, fun hj => ?_, fun j hj hij => ?_, fun j hj hij hK => ?_⟩
  · rcases List.mem_or_eq_of_mem_set hx with hx | hx
    · rcases List.mem_or_eq_of_mem_set hx with hx | hx
      · exact h.low x hx
      · omega
    · omega
  · simp at hj
    rw [List.getElem_set_ne (by omega)]
    by_cases hji : j = i + 1
    · subst hji; rw [List.getElem_set_self]; omega
    · rw [List.getElem_set_ne (by omega)]
      exact h.hi j hj (by omega)
  · rw [List.getElem_set_self]; omega
  · simp at hj
    rw [List.getElem_set_ne (by omega), List.getElem_set_ne (by omega)]
    exact h.lt j hj (by omega)
  · simp at hj
    rw [List.getElem_set_ne (by omega), List.getElem_set_ne (by omega)]
    exact h.far j hj (by omega) hK
theorem Mid.skip {D : List Int} {K i : Nat} (h : Mid D K (i + 1)) (hl : i + 1 < D.length) (h2 : ¬ 255 < D.getD (i + 1) 0) : Mid D K i := by
  rw [getD_get _ _ hl] at h2
  refine ⟨h.low, fun j hj hij => ?_, fun hj => ?_, fun j hj hij => h.lt j hj (by omega), fun j hj hij hK => h.far j hj (by omega) hK⟩
  · by_cases hji : j = i + 1
    · subst hji; omega
    · exact h.hi j hj (by omega)
  · have := h.lt i hj (by omega); omega
theorem carF_ok (i : Nat) : ∀ (D : List Int) (K : Nat), Mid D K i → i < D.length → vl D < 256 ^ D.length → ∀ x ∈ carF i D K, 0 ≤ x ∧ x ≤ 255 := by
  induction i with
  | zero =>
    intro D K h hl hv x hx
    have hx' : x ∈ D := hx
    refine ⟨h.low x hx', ?_⟩
    obtain ⟨j, hj, rfl⟩ := List.getElem_of_mem hx'
    by_cases h0 : 0 < j
    · exact h.hi j hj h0
    · obtain rfl : j = 0 := by omega
      cases D with
      | nil => simp at hl
      | cons y l =>
        rw [vl_cons, List.length_cons, Int.pow_succ] at hv
        have hn := vl_nonneg l fun z hz => h.low z (List.mem_cons_of_mem _ hz)
        simp only [List.getElem_cons_zero]
        have hp := pow_pos256 l.length
        generalize (256 : Int) ^ l.length = p at *
        by_cases hy : y ≤ 255
        · exact hy
        · have : 256 * p ≤ y * p := Int.mul_le_mul_of_nonneg_right (by omega) (by omega)
          omega
  | succ i ih =>
    intro D K h hl hv
    unfold carF
    by_cases hc : K ≤ i + 1 ∨ 255 < D.getD (i + 1) 0
    · rw [if_pos hc]
      by_cases h2 : 255 < D.getD (i + 1) 0
      · rw [if_pos h2]
        have hvv : vl ((D.set (i + 1) (D.getD (i + 1) 0 - 256)).set i (D.getD i 0 + 1)) = vl D := by
          have := carF_vl (i + 1) D (i + 1) hl
          unfold carF at this
          rw [if_pos (.inl (Nat.le_refl _)), if_pos h2, carF_vl i _ _ (by simp; omega)] at this
          exact this
        exact ih _ K (h.step hl h2) (by simp; omega) (by rw [hvv]; simpa using hv)
      · rw [if_neg h2]
        exact ih D K (h.skip hl h2) (by omega) hv
    · rw [if_neg hc]
      intro x hx
      refine ⟨h.low x hx, ?_⟩
      obtain ⟨j, hj, rfl⟩ := List.getElem_of_mem hx
      rcases Nat.lt_trichotomy j (i + 1) with h1 | h1 | h1
      · exact h.far j hj h1 (by omega)
      · subst h1
        rw [getD_get _ _ hl] at hc
        omega
      · exact h.hi j hj h1
/-- The last n digits behind K may have grown. -/
structure Adds (D : List Int) (K n : Nat) : Prop where
  low : ∀ x ∈ D, 0 ≤ x
  far : ∀ j (h : j < D.length), j < K + n → D[j] ≤ 255
  top : ∀ x ∈ D, x ≤ 510
theorem Adds.step {D : List Int} {K n : Nat} (h : Adds D K (n + 1)) (hl : K + n < D.length) (a : Int) : Adds (D.set (K + n) (D.getD (K + n) 0 + a % 256)) K n := by
  rw [getD_get _ _ hl]
  have h0 := h.low _ (List.getElem_mem hl)
  have h1 := h.far (K + n) hl (by omega)
  refine ⟨fun x hx => ?_, fun j hj hjn => ?_, fun x hx => ?_⟩
  · rcases List.mem_or_eq_of_mem_set hx with hx | hx
    · exact h.low x hx
    · omega
  · simp at hj
    rw [List.getElem_set_ne (by omega)]
    exact h.far j hj (by omega)
  · rcases List.mem_or_eq_of_mem_set hx with hx | hx
    · exact h.top x hx
    · omega
theorem addF_ok (n : Nat) (hn : n ≤ 4) : ∀ (D : List Int) (K : Nat) (a : Int), D.length = K + 4 → Adds D K n → Adds (addF n D K a) K 0 := by
  induction n with
  | zero => intro D K a hl h; exact h
  | succ n ih =>
    intro D K a hl h
    unfold addF
    exact ih (by omega) _ _ _ (by simpa using hl) (h.step (by omega) a)
theorem Adds.mid {D : List Int} {K : Nat} (h : Adds D K 0) (hl : D.length = K + 4) : Mid D K (K + 3) :=
  ⟨h.low, fun j hj hij => by omega, fun hj => by have := h.top _ (List.getElem_mem hj); omega, fun j hj _ => h.top _ (List.getElem_mem hj), fun j hj _ hK => h.far j hj (by omega)⟩
end Go.Proofs.Ytlbjoflmfboeeaa.Dig

/-
  The document's encoder: what it holds, and the walks of New, power, Put; no condition but those told.
-/
set_option linter.unusedVariables false
set_option linter.unusedSimpArgs false
namespace Go.Proofs.Ytlbjoflmfboeeaa.Enc
open Go.RowKit Go.Proofs.Ytlbjoflmfboeeaa Go.Proofs.YtlbjoflmfboeeaaW.PrintWords Go.Proofs.Ytlbjoflmfboeeaa.Dig

structure RSt where
  D : List Int
  S : Int
  K : Nat
def rstep (R : RSt) : RSt := ⟨R.D ++ [0], R.S * 256, R.K + 1⟩
def rnorm : Nat → RSt → RSt
  | 0, R => R
  | n + 1, R => if R.S < 16777216 then rnorm n (rstep R) else R
def rputS (R : RSt) (lo ow al : Int) : RSt := rnorm 2 ⟨carF (R.K + 3) (addF 4 R.D R.K (R.S / al * lo)) R.K, R.S / al * ow, R.K⟩
structure RGood (R : RSt) : Prop where
  len : R.D.length = R.K + 4
  dig : ∀ x ∈ R.D, 0 ≤ x ∧ x ≤ 255
  s0 : 16777216 ≤ R.S
  s1 : R.S < 4294967296
  val : vl R.D + R.S ≤ 256 ^ (R.K + 4)
theorem rnorm_good (n : Nat) (hn : n ≤ 2) : ∀ (R : RSt), R.D.length = R.K + 4 → (∀ x ∈ R.D, 0 ≤ x ∧ x ≤ 255) → lw n ≤ R.S → R.S < 4294967296 → vl R.D + R.S ≤ 256 ^ (R.K + 4) → RGood (rnorm n R) ∧ R.K ≤ (rnorm n R).K ∧ (rnorm n R).K ≤ R.K + n := by
  induction n with
  | zero => intro R h1 h2 h3 h4 h5; exact ⟨⟨h1, h2, h3, h4, h5⟩, Nat.le_refl _, Nat.le_refl _⟩
  | succ n ih =>
    intro R h1 h2 h3 h4 h5
    unfold rnorm
    by_cases hc : R.S < 16777216
    · rw [if_pos hc]
      have hlw2 : lw n ≤ R.S * 256 := by
        rcases (show n = 0 ∨ n = 1 by omega) with h | h
        · subst h; have : (65536 : Int) ≤ R.S := h3; show (16777216 : Int) ≤ _; omega
        · subst h; have : (256 : Int) ≤ R.S := h3; show (65536 : Int) ≤ _; omega
      obtain ⟨r1, r2, r3⟩ := ih (by omega) (rstep R) (by simp [rstep, h1]) (fun x hx => by
        rcases List.mem_append.1 hx with hx | hx
        · exact h2 x hx
        · simp at hx; omega) hlw2 (by show R.S * 256 < 4294967296; omega) (by
        show vl (R.D ++ [0]) + R.S * 256 ≤ 256 ^ (R.K + 1 + 4)
        rw [vl_snoc, show R.K + 1 + 4 = R.K + 4 + 1 from by omega, Int.pow_succ]
        omega)
      have hk : (rstep R).K = R.K + 1 := rfl
      exact ⟨r1, by omega, by omega⟩
    · rw [if_neg hc]
      exact ⟨⟨h1, h2, by omega, h4, h5⟩, Nat.le_refl _, by omega⟩
theorem adds_of {D : List Int} (h : ∀ x ∈ D, 0 ≤ x ∧ x ≤ 255) (K n : Nat) : Adds D K n :=
  ⟨fun x hx => (h x hx).1, fun j hj _ => (h _ (List.getElem_mem hj)).2, fun x hx => by have := (h x hx).2; omega⟩
theorem mid_of {R : RSt} (g : RGood R) (a : Int) : Mid (addF 4 R.D R.K a) R.K (R.K + 3) := by
  have h := addF_ok 4 (by omega) R.D R.K a g.len (adds_of g.dig _ _)
  exact h.mid (by rw [addF_len]; exact g.len)
theorem rput_good {R : RSt} (g : RGood R) {lo ow al : Int} (may : May lo ow al) : RGood (rputS R lo ow al) ∧ R.K ≤ (rputS R lo ow al).K ∧ (rputS R lo ow al).K ≤ R.K + 2 := by
  obtain ⟨p0, p1, p2, p3⟩ := may
  obtain ⟨each, hE⟩ : ∃ each, each = R.S / al := ⟨_, rfl⟩
  have s0 := g.s0
  have s1 := g.s1
  have b3 := each_lo al R.S (by omega) p3 s0
  have b1 := mul_bd each lo al R.S hE (by omega) p0 (by omega) (by omega)
  have b2 := mul_bd each ow al R.S hE (by omega) (by omega) (by omega) (by omega)
  have b6 := mul_bd each (lo + ow) al R.S hE (by omega) (by omega) (by omega) (by omega)
  rw [Int.mul_add] at b6
  have b4 : each * 1 ≤ each * ow := Int.mul_le_mul_of_nonneg_left p1 (by omega)
  rw [Int.mul_one] at b4
  have hv : vl (addF 4 R.D R.K (each * lo)) = vl R.D + each * lo := by
    have := addF_vl 4 (by omega) R.D R.K (each * lo) g.len b1.1 (by show each * lo < 4294967296; omega)
    simpa using this
  have hl : (addF 4 R.D R.K (each * lo)).length = R.K + 4 := by rw [addF_len]; exact g.len
  have hgv := g.val
  have hlt : vl (addF 4 R.D R.K (each * lo)) < 256 ^ (addF 4 R.D R.K (each * lo)).length := by
    rw [hv, hl]; omega
  have hok := carF_ok (R.K + 3) _ R.K (mid_of g (each * lo)) (by omega) hlt
  have hcv := carF_vl (R.K + 3) (addF 4 R.D R.K (each * lo)) R.K (by omega)
  unfold rputS
  rw [← hE] at b3 ⊢
  exact rnorm_good 2 (by omega) ⟨carF (R.K + 3) (addF 4 R.D R.K (each * lo)) R.K, each * ow, R.K⟩ (by simp only; rw [carF_len]; exact hl) hok (by show (256 : Int) ≤ each * ow; omega) (by simp only; omega) (by simp only; rw [hcv, hv]; omega)
/-- The document's encoder: block m, its digits in block g. -/
structure RIs (w : World) (m : Nat) (R : RSt) (g cap : Nat) : Prop where
  blk : Blk w m 56 #[.slice (some ⟨g, 0, none⟩) R.D.length cap, .int .i64 R.S, .int .i64 R.K]
  row : RowI w 3 .i64 g cap R.D
  ne : m ≠ g
structure RStep (m g g' : Nat) (w w' : World) : Prop where
  only : Only (fun k => k = m ∨ k = g) w w'
  own : g' = g ∨ w.heap.size ≤ g'
theorem RStep.refl (m g : Nat) (w : World) : RStep m g g w w := ⟨Only.refl _ _, .inl rfl⟩
theorem RStep.trans {m g g' g'' : Nat} {w w' w'' : World} (a : RStep m g g' w w') (b : RStep m g' g'' w' w'') : RStep m g g'' w w'' := by
  refine ⟨a.only.then b.only fun i hi => ?_, ?_⟩
  · rcases hi with hi | hi
    · exact .inl (.inl hi)
    · rcases a.own with h | h
      · exact .inl (.inr (hi.trans h))
      · exact .inr (by omega)
  · rcases b.own with h | h
    · rw [h]; exact a.own
    · exact .inr (Nat.le_trans a.only.size h)
theorem RStep.drew {m g g' : Nat} {w w' : World} (a : RStep m g g' w w') : RStep m g g' w w'.drew := ⟨a.only.drew, a.own⟩
theorem RStep.setm {m g g' : Nat} {w w' : World} (a : RStep m g g' w w') (i : Nat) (u : Value) : RStep m g g' w (w'.setCell ⟨m, i, none⟩ u) := ⟨a.only.set (p := ⟨m, i, none⟩) (.inl (.inl rfl)) u, a.own⟩
theorem RStep.setg {m g g' : Nat} {w w' : World} (a : RStep m g g' w w') (i : Nat) (u : Value) : RStep m g g' w (w'.setCell ⟨g', i, none⟩ u) :=
  ⟨a.only.set (p := ⟨g', i, none⟩) (a.own.imp (fun h => .inr h) id) u, a.own⟩
theorem RIs.only {S : Nat → Prop} {w w' : World} {m g cap : Nat} {R : RSt} (a : RIs w m R g cap) (o : Only S w w') (h1 : ¬ S m) (h2 : ¬ S g) : RIs w' m R g cap :=
  ⟨a.blk.of_same (o.block m a.blk.lt h1), a.row.of_same (o.block g a.row.lt h2), a.ne⟩
def rfresh : RSt := ⟨[0, 0, 0, 0], 4294967295, 0⟩
theorem rfresh_good : RGood rfresh := ⟨rfl, by decide, by decide, by decide, by decide⟩
theorem RNew_calls (w : World) : Calls Try.prog 26 #[] w fun e w' => e = .returned (.pointer (some ⟨w.heap.size + 1, 0, none⟩)) ∧ RIs w' (w.heap.size + 1) rfresh w.heap.size 4 ∧ Below w.heap.size w w' := by
  go_enter Try.func26, Try.ntmps26
  go_wp2
  go_ret
  refine ⟨rfl, ⟨Blk.new_at _ _ (by simp), ⟨_, (Blk.new w _ _).alloc _, by decide, by decide, rfl, fun i h => ?_⟩, by omega⟩, (((Below.refl _ _).alloc (Nat.le_refl _) _).alloc (by simp) _ : Below _ _ _)⟩
  have : i < 4 := h
  match i, this with
  | 0, _ => rfl
  | 1, _ => rfl
  | 2, _ => rfl
  | 3, _ => rfl
theorem power_calls (k : Nat) (hk : k ≤ 60) (w : World) : Calls Try.prog 65 #[.int .i64 k] w fun e w' => e = .returned (.int .i64 (2 ^ k)) ∧ w' = w := by
  go_enter Try.func65, Try.ntmps65
  go_wp2
  go_loop [3, 4] (fun v i => ∃ j : Nat, j ≤ k ∧ i = .int .i64 (j : Int) ∧ v = .int .i64 (2 ^ j)) (fun _ i => k - (intOf i).toNat)
  case atStart => exact ⟨0, by omega, rfl, rfl⟩
  case round =>
    obtain ⟨j, hj, rfl, rfl⟩ := hrel
    by_cases hlt : j < k
    · have h4 := Nat.pow_le_pow_right (show 0 < 2 by decide) (show j ≤ 60 by omega)
      have h5 : (2 : Int) ^ j ≤ 2 ^ 60 := by exact_mod_cast h4
      have e60 : (2 : Int) ^ 60 = 1152921504606846976 := by decide
      have h6 : (0 : Int) < 2 ^ j := Int.pow_pos (by omega)
      have HP := Lib.hid (Int.pow_succ (2 : Int) j)
      rw [e60] at h5
      clear h4 e60
      generalize (2 : Int) ^ j = p at *
      go_wp2
      go_round
      case rel => exact ⟨j + 1, by omega, by push_cast; rfl, by rw [HP.out]⟩
      case measure => simp [intOf]; omega
    · obtain rfl : j = k := by omega
      go_wp2
      go_ret
      exact ⟨rfl, rfl⟩
end Go.Proofs.Ytlbjoflmfboeeaa.Enc

/-
  The walk of the document's Put; no condition but those told.
-/
set_option linter.unusedVariables false
set_option linter.unusedSimpArgs false
namespace Go.Proofs.Ytlbjoflmfboeeaa.Enc
open Go.RowKit Go.Proofs.Ytlbjoflmfboeeaa Go.Proofs.YtlbjoflmfboeeaaW.PrintWords Go.Proofs.Ytlbjoflmfboeeaa.Dig

theorem wrapN {x : Int} (n : Nat) (h : x = n) (hn : n < 9223372036854775808) : IntKind.i64.wrap x = (n : Int) := by rw [h]; exact wrapI64 (by omega) (by omega)
theorem addF_step (n : Nat) (D : List Int) (K : Nat) (a : Int) : addF (n + 1) D K a = addF n (D.set (K + n) (D.getD (K + n) 0 + a % 256)) K (a / 256) := rfl
theorem addF_none (D : List Int) (K : Nat) (a : Int) : addF 0 D K a = D := rfl
theorem carF_none (D : List Int) (K : Nat) : carF 0 D K = D := rfl
theorem carF_stop (i : Nat) (D : List Int) (K : Nat) (h : ¬ (K ≤ i + 1 ∨ 255 < D.getD (i + 1) 0)) : carF (i + 1) D K = D := by unfold carF; rw [if_neg h]
theorem carF_over (i : Nat) (D : List Int) (K : Nat) (h : 255 < D.getD (i + 1) 0) : carF (i + 1) D K = carF i ((D.set (i + 1) (D.getD (i + 1) 0 - 256)).set i (D.getD i 0 + 1)) K := by
  rw [carF, if_pos (.inr h), if_pos h]
theorem carF_on (i : Nat) (D : List Int) (K : Nat) (h : ¬ 255 < D.getD (i + 1) 0) (hk : K ≤ i + 1) : carF (i + 1) D K = carF i D K := by
  rw [carF, if_pos (.inl hk), if_neg h]
attribute [local irreducible] addF carF
set_option maxHeartbeats 4000000 in
set_option maxRecDepth 100000 in
theorem RPut_yes {w : World} {m : Nat} {R : RSt} {g cap : Nat} (a : RIs w m R g cap) (ok : RGood R) (small : R.K ≤ 900000000) (lo ow al : Int) (may : May lo ow al) :
    Calls Try.prog 30 #[.pointer (some ⟨m, 0, none⟩), .int .i64 lo, .int .i64 ow, .int .i64 al] w fun e w' => ∃ g' cap', e = .returned (.tuple #[]) ∧ RIs w' m (rputS R lo ow al) g' cap' ∧ RStep m g g' w w' := by
  have HM := Lib.hid (mid_of ok (R.S / al * lo))
  have OK := Lib.hid ok
  have A := Lib.hid a
  obtain ⟨p0, p1, p2, p3⟩ := may
  obtain ⟨each, hE⟩ : ∃ each, each = R.S / al := ⟨_, rfl⟩
  obtain ⟨q, hq⟩ : ∃ q, q = each * lo := ⟨_, rfl⟩
  obtain ⟨r, hr⟩ : ∃ r, r = each * ow := ⟨_, rfl⟩
  have b1 := mul_bd each lo al R.S hE (by omega) p0 (by omega) (by have := ok.s0; omega)
  have b2 := mul_bd each ow al R.S hE (by omega) (by omega) (by omega) (by have := ok.s0; omega)
  have b3 := each_lo al R.S (by omega) p3 ok.s0
  have b4 : each * 1 ≤ each * ow := Int.mul_le_mul_of_nonneg_left p1 (by rw [hE]; omega)
  rw [Int.mul_one] at b4
  rw [← hE] at b3
  rw [← hq] at b1
  rw [← hr] at b2 b4
  have HPut : Hid (rputS R lo ow al = rnorm 2 ⟨carF (R.K + 3) (addF 4 R.D R.K q) R.K, r, R.K⟩) := Lib.hid (by unfold rputS; rw [hq, hr, hE])
  rw [← hE, ← hq] at HM
  have e1 : Int.tdiv R.S al = each := by rw [hE, Int.tdiv_eq_ediv_of_nonneg (by have := ok.s0; omega)]
  have e1' : R.S / al = each := hE.symm
  have e2 : each * lo = q := hq.symm
  have e3 : each * ow = r := hr.symm
  have s0 := ok.s0
  have s1 := ok.s1
  have d0 := a.blk.cell (i := 0) rfl
  have d1 := a.blk.cell (i := 1) rfl
  have d2 := a.blk.cell (i := 2) rfl
  have hlen := ok.len
  have hne := a.ne
  have z1 : al ≠ 0 := by omega
  have z2 : (al == 0) = false := by rw [beq_eq_false_iff_ne]; omega
  have b5 : each ≤ R.S := by rw [hE]; exact Int.ediv_le_self _ (by omega)
  obtain ⟨len, hle⟩ : ∃ len, len = R.K + 4 := ⟨_, rfl⟩
  rw [← hle] at hlen
  rw [hlen] at d0
  have HL := Lib.hid hlen
  obtain ⟨D, S, K⟩ := R
  simp only at *
  clear hE hq hr a ok hlen
  have HLe := Lib.hid hle
  have hle1 : K + 4 ≤ len := by omega
  have hle2 : len ≤ K + 4 := by omega
  clear hle
  go_enter Try.func30, Try.ntmps30
  go_wp2
  clear e1 e1' e2 d0 d1 d2
  go_loopw [9, 10] (fun va vi wr => ∃ (n : Nat) (E : List Int) (x z : Int), n ≤ 4 ∧ vi = .int .i64 z ∧ z + 1 = (n : Int) ∧ va = .int .i64 x ∧ 0 ≤ x ∧ x < 4294967296 ∧ Hid (addF n E K x = addF 4 D K q) ∧ Hid (E.length = len) ∧ Hid (Adds E K n) ∧ Hid (RIs wr m ⟨E, S, K⟩ g cap) ∧ Hid (RStep m g g w wr)) (fun _ vi _ => (intOf vi + 1).toNat)
  case atStart => exact ⟨4, D, q, 3, by omega, rfl, rfl, rfl, by omega, by omega, rfl, HL, adds_of OK.out.dig _ _, A, RStep.refl m g w⟩
  case round =>
    clear A
    obtain ⟨n, E, x, z, hn, rfl, hz1, rfl, hx0, hx1, HA, HE, HAd, A, S0⟩ := hrel
    have d0 := A.out.blk.cell (i := 0) rfl
    have d2 := A.out.blk.cell (i := 2) rfl
    have f2 := A.out.blk.free 2
    simp only at d0 d2
    rw [HE.out] at d0
    by_cases hz : 0 < n
    · obtain ⟨i, rfl⟩ : ∃ i, n = i + 1 := ⟨n - 1, by omega⟩
      obtain rfl : z = (i : Int) := by omega
      clear hz1
      obtain ⟨ix, hix⟩ : ∃ ix, ix = K + i := ⟨_, rfl⟩
      have e5 : IntKind.i64.wrap ((K : Int) + (i : Int)) = (ix : Int) := wrapN ix (by omega) (by omega)
      have hixl : ix < E.length := by rw [HE.out]; omega
      have c1 := A.out.row.cell hixl
      have f1 := A.out.row.free ix
      have ixb : (ix : Int) < (len : Int) := by omega
      have hy0 := HAd.out.low _ (List.getElem_mem hixl)
      have hy1 := HAd.out.top _ (List.getElem_mem hixl)
      have hgd := getD_get E ix hixl
      generalize E[ix]'hixl = y at *
      have e6 : Int.tmod x 256 = x % 256 := Int.tmod_eq_emod_of_nonneg hx0
      have e7 : IntKind.i64.wrap (x % 256) = x % 256 := wrapI64 (by omega) (by omega)
      have e8 : IntKind.i64.wrap (y + x % 256) = y + x % 256 := wrapI64 (by omega) (by omega)
      have HSt := Lib.hid (addF_step i E K x)
      have HAn := Lib.hid (HAd.out.step (by rw [HE.out]; omega) x)
      rw [← hix] at HSt HAn
      rw [hgd] at HSt HAn
      have HIX := Lib.hid hix
      clear hix hgd hixl
      go_wp2
      go_still_tail 26, (by kernel_rfl)
      go_wp2
      go_roundw
      case rel => exact ⟨i, E.set ix (y + x % 256), x / 256, (i : Int) - 1, by omega, rfl, by omega, rfl, by omega, by omega, HSt.out.symm.trans HA.out, by show _ = _; rw [List.length_set]; exact HE.out, HAn.out, ⟨by rw [List.length_set]; exact (A.out.blk.other (a := ⟨g, ix, none⟩) hne _).drew, (A.out.row.set ix _).drew, hne⟩, (S0.out.setg ix _).drew⟩
      case measure => simp [intOf]
    · obtain rfl : n = 0 := by omega
      obtain rfl : z = -1 := by omega
      have HA0 : Hid (E = addF 4 D K q) := Lib.hid ((addF_none E K x).symm.trans HA.out)
      rw [← HA0.out] at HPut HM
      clear hz1 HA HAd
      go_upto_block 2 with (fail)
      go_cut [] (fun wc => Hid (RIs wc m ⟨carF (K + 3) E K, S, K⟩ g cap) ∧ Hid (RStep m g g w wc))
      case first =>
        go_wp2
        go_loopw [11] (fun vi wr => ∃ (i : Nat) (F : List Int), i ≤ K + 3 ∧ vi = .int .i64 (i : Int) ∧ Hid (carF i F K = carF (K + 3) E K) ∧ Hid (F.length = len) ∧ Hid (Mid F K i) ∧ Hid (RIs wr m ⟨F, S, K⟩ g cap) ∧ Hid (RStep m g g w wr)) (fun vi _ => (intOf vi).toNat)
        case atStart => exact ⟨K + 3, E, Nat.le_refl _, by go_num, rfl, HE, HM, A, S0⟩
        case round =>
          clear A S0 d0 d2 f2 HM HE
          obtain ⟨i, F, hi, rfl, HC, HF, HMi, A, S0⟩ := hrel
          have d0 := A.out.blk.cell (i := 0) rfl
          have d1 := A.out.blk.cell (i := 1) rfl
          have d2 := A.out.blk.cell (i := 2) rfl
          have f1 := A.out.blk.free 1
          simp only at d0 d1 d2
          rw [HF.out] at d0
          by_cases h0 : 0 < i
          · obtain ⟨j, hj⟩ : ∃ j, i = j + 1 := ⟨i - 1, by omega⟩
            have il : i < F.length := by rw [HF.out]; omega
            have jl : j < F.length := by rw [HF.out]; omega
            have c1 := A.out.row.cell il
            have g1 := A.out.row.free i
            have gd1 := getD_get F i il
            have ib : (i : Int) < (len : Int) := by omega
            have jb : (j : Int) < (len : Int) := by omega
            have y0 := HMi.out.low _ (List.getElem_mem il)
            have y1 := HMi.out.at_ il
            have x0 := HMi.out.low _ (List.getElem_mem jl)
            have x1 := HMi.out.lt j jl (by omega)
            have gd2 := getD_get F j jl
            generalize F[i]'il = y at *
            by_cases hy : 255 < y
            · have HCo := Lib.hid (carF_over j F K (by rw [← hj, gd1]; exact hy))
              have HMn : Hid (Mid ((F.set i (y - 256)).set j (F.getD j 0 + 1)) K j) := by
                have := Mid.step (i := j) (by rw [← hj]; exact HMi.out) (by omega) (by rw [← hj, gd1]; exact hy)
                rw [← hj, gd1] at this
                exact this
              rw [← hj, gd1, gd2] at HCo
              rw [gd2] at HMn
              have CJ : Hid ((wr.setCell ⟨g, i, none⟩ (.int .i64 (y - 256))).drew.cell? ⟨g, j, none⟩ = some (.int .i64 (F[j]'jl))) := by
                have h1 := ((A.out.row.set i (y - 256)).drew).cell (i := j) (by rw [List.length_set]; exact jl)
                rw [List.getElem_set_ne (by omega)] at h1
                exact h1
              have cj := A.out.row.cell jl
              generalize F[j]'jl = x2 at *
              have e4 : IntKind.i64.wrap (y - 256) = y - 256 := wrapI64 (by omega) (by omega)
              have e5 : IntKind.i64.wrap (x2 + 1) = x2 + 1 := wrapI64 (by omega) (by omega)
              have e6 : IntKind.i64.wrap ((i : Int) - 1) = (j : Int) := wrapN j (by omega) (by omega)
              have A2 : Hid (RowI (wr.setCell ⟨g, i, none⟩ (.int .i64 (y - 256))).drew 3 .i64 g cap (F.set i (y - 256))) := Lib.hid (A.out.row.set i (y - 256)).drew
              have B2 : Hid (Blk (wr.setCell ⟨g, i, none⟩ (.int .i64 (y - 256))).drew m 56 #[.slice (some ⟨g, 0, none⟩) F.length cap, .int .i64 S, .int .i64 K]) := Lib.hid (A.out.blk.other (a := ⟨g, i, none⟩) hne (.int .i64 (y - 256))).drew
              have S2 := Lib.hid (S0.out.setg i (.int .i64 (y - 256))).drew
              have HJ := Lib.hid hj
              clear gd1 gd2 hj
              by_cases hk : K ≤ i
              all_goals
                go_wp2
                go_still_tail 14, (by kernel_rfl)
                go_wp2
                clear d0 d1 d2 c1 g1 cj f1 A S0
                generalize (wr.setCell ⟨g, i, none⟩ (.int .i64 (y - 256))).drew = w2 at *
                have d0 := B2.out.cell (i := 0) rfl
                have cj := CJ.out
                have gj := A2.out.free j
                rw [HF.out] at d0
                go_still_tail 16, (by kernel_rfl)
                go_wp2
                go_roundw
                case rel =>
                  exact ⟨j, (F.set i (y - 256)).set j (x2 + 1), by have := HJ.out; omega, rfl, HCo.out.symm.trans HC.out, by show _ = _; rw [List.length_set, List.length_set]; exact HF.out, HMn, ⟨by rw [List.length_set, List.length_set]; exact (B2.out.other (a := ⟨g, j, none⟩) hne _).drew, (A2.out.set j _).drew, hne⟩, (S2.out.setg j _).drew⟩
                case measure => simp [intOf]; have := HJ.out; omega
            · by_cases hk : K ≤ i
              · have HCo := Lib.hid (carF_on j F K (by rw [← hj, gd1]; exact hy) (by omega))
                have HMn : Hid (Mid F K j) := Lib.hid (Mid.skip (i := j) (by rw [← hj]; exact HMi.out) (by omega) (by rw [← hj, gd1]; exact hy))
                rw [← hj] at HCo
                have e6 : IntKind.i64.wrap ((i : Int) - 1) = (j : Int) := wrapN j (by omega) (by omega)
                have HJ := Lib.hid hj
                have e7 : (i : Int) - 1 = (j : Int) := by omega
                clear gd1 gd2 hj
                go_wp2
                go_roundw
                case rel => exact ⟨j, F, by have := HJ.out; omega, rfl, HCo.out.symm.trans HC.out, HF, HMn, A, S0⟩
                case measure => simp [intOf]; have := HJ.out; omega
              · have HCo := Lib.hid (carF_stop j F K (by rw [← hj, gd1]; omega))
                rw [← hj] at HCo
                have HFin : Hid (F = carF (K + 3) E K) := Lib.hid (HCo.out.symm.trans HC.out)
                clear gd1 gd2 hj HC HCo HMi
                go_wp2
                go_meet
                rw [← HFin.out]
                exact ⟨A, S0⟩
          · obtain rfl : i = 0 := by omega
            have HFin : Hid (F = carF (K + 3) E K) := Lib.hid ((carF_none F K).symm.trans HC.out)
            clear HC HMi
            go_wp2
            go_meet
            rw [← HFin.out]
            exact ⟨A, S0⟩
      case rest =>
        clear A S0 d0 d2 f2 HM
        obtain ⟨A, S0⟩ := hcut
        have HCl : Hid ((carF (K + 3) E K).length = len) := Lib.hid (by rw [carF_len]; exact HE.out)
        generalize carF (K + 3) E K = F at *
        clear HE
        have f1 := A.out.blk.free 1
        have d1 := A.out.blk.cell (i := 1) rfl
        have A1 : Hid (RIs (wc.setCell ⟨m, 1, none⟩ (.int .i64 r)) m ⟨F, r, K⟩ g cap) := Lib.hid ⟨A.out.blk.set 1 _, A.out.row.other (a := ⟨m, 1, none⟩) (Ne.symm hne) _, hne⟩
        have S1 := Lib.hid (S0.out.setm 1 (.int .i64 r))
        go_wp2
        clear A S0 d1 f1
        go_loopg [] 2 (fun j wr => ∃ (T : RSt) (g' cap' : Nat), j ≤ 2 ∧ lw j ≤ T.S ∧ T.S < 4294967296 ∧ T.K + j ≤ 900000002 ∧ Hid (rnorm j T = rputS ⟨D, S, K⟩ lo ow al) ∧ Hid (T.D.length = T.K + 4) ∧ Hid (RIs wr m T g' cap') ∧ Hid (RStep m g g' w wr))
        case atStart => exact ⟨⟨F, r, K⟩, g, cap, Nat.le_refl _, by show (256 : Int) ≤ r; omega, by simp only; omega, by simp only; omega, HPut.out.symm, by show F.length = K + 4; rw [HCl.out]; omega, A1, S1⟩
        case round =>
          clear A1 S1 HPut HCl
          obtain ⟨T, g', cap', hj2, hlw, hS1, hTK, HN, HTl, A, S0⟩ := hrel
          have d0 := A.out.blk.cell (i := 0) rfl
          have d1 := A.out.blk.cell (i := 1) rfl
          have d2 := A.out.blk.cell (i := 2) rfl
          have f0 := A.out.blk.free 0
          have f1 := A.out.blk.free 1
          have f2 := A.out.blk.free 2
          have hml := A.out.blk.lt
          have hne2 := A.out.ne
          rw [HTl.out] at d0
          by_cases hc : T.S < 16777216
          · have hg : 0 < gk := by
              rcases Nat.eq_zero_or_pos gk with h | h
              · subst h; have : (16777216 : Int) ≤ T.S := hlw; omega
              · exact h
            obtain ⟨j, rfl⟩ : ∃ j, gk = j + 1 := ⟨gk - 1, by omega⟩
            have HSt : Hid (rnorm (j + 1) T = rnorm j (rstep T)) := Lib.hid (by show (if T.S < 16777216 then rnorm j (rstep T) else T) = _; rw [if_pos hc])
            have hlw2 : lw j ≤ T.S * 256 := by
              rcases (show j = 0 ∨ j = 1 by omega) with h | h
              · subst h; have : (65536 : Int) ≤ T.S := hlw; show (16777216 : Int) ≤ _; omega
              · subst h; have : (256 : Int) ≤ T.S := hlw; show (65536 : Int) ≤ _; omega
            have hT0 : 0 ≤ T.S := by
              rcases (show j = 0 ∨ j = 1 by omega) with h | h
              · subst h; have : (65536 : Int) ≤ T.S := hlw; omega
              · subst h; have : (256 : Int) ≤ T.S := hlw; omega
            obtain ⟨TD, TS, TK⟩ := T
            simp only at *
            have A1 : Hid (Blk ((wr.setCell ⟨m, 1, none⟩ (.int .i64 (TS * 256))).setCell ⟨m, 2, none⟩ (.int .i64 ((TK : Int) + 1))) m 56 #[.slice (some ⟨g', 0, none⟩) (TK + 4) cap', .int .i64 (TS * 256), .int .i64 ((TK : Int) + 1)]) := Lib.hid (by
              have := (A.out.blk.set 1 (.int .i64 (TS * 256))).set 2 (.int .i64 ((TK : Int) + 1))
              simp only at this
              rw [HTl.out] at this
              exact this)
            have R1 : Hid (RowI ((wr.setCell ⟨m, 1, none⟩ (.int .i64 (TS * 256))).setCell ⟨m, 2, none⟩ (.int .i64 ((TK : Int) + 1))) 3 .i64 g' cap' TD) := Lib.hid ((A.out.row.other (a := ⟨m, 1, none⟩) (Ne.symm hne2) _).other (a := ⟨m, 2, none⟩) (Ne.symm hne2) _)
            have S1 : Hid (RStep m g g' w ((wr.setCell ⟨m, 1, none⟩ (.int .i64 (TS * 256))).setCell ⟨m, 2, none⟩ (.int .i64 ((TK : Int) + 1)))) := Lib.hid ((S0.out.setm 1 _).setm 2 _)
            have hrl := R1.out.lt
            have SL := Lib.hid (Sl.row R1.out)
            rw [HTl.out] at SL
            clear hlw A S0
            go_wp2_with (first
              | (at_builtin; refine wpList_push (.tmp 149) (.tmp 150) 54 3 .i64 0 8 rfl rfl Try.underlying54 Mdl.info_int (.slice (some ⟨g', 0, none⟩) (TK + 4) cap') TD (TK + 4) 0 ⟨wr.heap.size, 0, none⟩ (wr.heap.size + 1) rfl rfl ?_ HTl.out ?_ ?_ ?_ ?_ ?_
                 · exact SL.out.alloc _
                 · exact (Blk.new_at _ _ (by simp [World.setCell])).cell (i := 0) rfl
                 · simp [World.setCell]
                 · omega
                 · omega
                 intro g2 cap2 w2 hp
                 have b2 := (A1.out.alloc (.cells #[.int .i64 0] 3)).of_same (hp.block (by have := A1.out.lt; simp at this ⊢; omega) (fun e => hne2 (Option.some.inj e).symm))
                 have x0 := b2.cell (i := 0) rfl
                 have y0 := b2.free 0
                 have B2 := Lib.hid b2
                 have HP := Lib.hid hp
                 clear hp b2))
            go_roundg j
            case measure => omega
            case rel =>
              have hgm : g2 ≠ m := by
                rcases HP.out.at_ with h | h
                · have e : g' = g2 := Option.some.inj h
                  omega
                · omega
              have eT : (TD ++ [0]).length = TK + 4 + 1 := by rw [List.length_append, HTl.out]; rfl
              have eK : ((TK : Int) + 1) = ((TK + 1 : Nat) : Int) := by omega
              refine ⟨⟨TD ++ [0], TS * 256, TK + 1⟩, g2, cap2, by omega, hlw2, by simp only; omega, by simp only; omega, HSt.out.symm.trans HN.out, by show (TD ++ [0]).length = TK + 1 + 4; omega, ⟨?_, HP.out.row.other (a := ⟨m, 0, none⟩) hgm _, fun e => hgm e.symm⟩, ?_⟩
              · have := B2.out.set 0 (.slice (some ⟨g2, 0, none⟩) (TK + 4 + 1) cap2)
                simp only
                rw [eT, ← eK]
                exact this
              · have st : RStep m g' g2 ((wr.setCell ⟨m, 1, none⟩ (.int .i64 (TS * 256))).setCell ⟨m, 2, none⟩ (.int .i64 ((TK : Int) + 1))) w2 := by
                  refine ⟨((Only.refl _ _).alloc _).then HP.out.only (fun i hi => .inl (.inr (Option.some.inj hi).symm)), ?_⟩
                  rcases HP.out.at_ with h | h
                  · exact .inl (Option.some.inj h).symm
                  · refine .inr ?_
                    simp [World.setCell]; omega
                exact (S1.out.trans st).setm 0 _
          · have HF2 : Hid (rputS ⟨D, S, K⟩ lo ow al = T) := Lib.hid (HN.out.symm.trans (by
              cases gk with
              | zero => rfl
              | succ j => show (if T.S < 16777216 then rnorm j (rstep T) else T) = _; rw [if_neg hc]))
            clear HN
            go_wp2
            rw [HF2.out]
            exact bodyPost_end (results_none rfl _ _ _) rfl ⟨rfl, g', ⟨cap', A.out⟩, S0.out⟩
end Go.Proofs.Ytlbjoflmfboeeaa.Enc

/-
  The walks of the document's encoder: Symbol, Bits, Bytes; no condition but those told.
-/
set_option linter.unusedVariables false
set_option linter.unusedSimpArgs false
namespace Go.Proofs.Ytlbjoflmfboeeaa.Enc
open Go.RowKit Go.Proofs.Ytlbjoflmfboeeaa Go.Proofs.YtlbjoflmfboeeaaW.PrintWords Go.Proofs.Ytlbjoflmfboeeaa.Dig

def rsymS (R : RSt) (L : List Int) (k : Nat) : RSt := rputS R (Mdl.lsum (L.take k)) (L.getD k 0) (Mdl.lsum L)
def rbitsS (R : RSt) (n : Int) (w : Nat) : RSt :=
  if w = 0 then R else if w ≤ 12 then rputS R (n % 2 ^ w) 1 (2 ^ w) else rputS (rputS R (n / 2 ^ (w - 12) % 4096) 1 4096) (n % 2 ^ (w - 12)) 1 (2 ^ (w - 12))
theorem rbits_step (t : RSt) (n : Int) (j i : Nat) (hi : j = i + 12) (h0 : 0 < i) (h12 : i ≤ 12) : rbitsS t n j = rbitsS (rputS t (n / 2 ^ i % 4096) 1 4096) n i := by
  unfold rbitsS
  rw [if_neg (by omega), if_neg (by omega), if_neg (by omega), if_pos (by omega), show j - 12 = i from by omega]
theorem rbits_last (t : RSt) (n : Int) (j : Nat) (h0 : 0 < j) (h12 : j ≤ 12) : rbitsS t n j = rputS t (n % 2 ^ j) 1 (2 ^ j) := by
  unfold rbitsS
  rw [if_neg (by omega), if_pos h12]
theorem rbits_nought (t : RSt) (n : Int) : rbitsS t n 0 = t := by unfold rbitsS; rw [if_pos rfl]
attribute [local irreducible] rbitsS rputS rsymS
theorem RIs.drewN {w : World} {m g cap : Nat} {R : RSt} (a : RIs w m R g cap) (n : Nat) : RIs (w.drewN n) m R g cap := ⟨a.blk.drewN n, a.row.drewN n, a.ne⟩
theorem RStep.below {m g g' : Nat} {w w' w'' : World} (a : RStep m g g' w w') (b : Below w'.heap.size w' w'') : RStep m g g' w w'' :=
  ⟨a.only.then (Only.of_below b : Only (fun _ => False) _ _) fun _ h => h.elim, a.own⟩
set_option maxHeartbeats 2000000 in
set_option maxRecDepth 100000 in
theorem RSymbol_yes {w : World} {e ge ce m h cap : Nat} {R : RSt} {L : List Int} {f : Bool} (a : RIs w e R ge ce) (ok : RGood R) (small : R.K ≤ 900000000) (b : Mdl.IsR w m h cap L f) (good : Mdl.Good L) (k : Nat) (hk : k < L.length)
    (n1 : e ≠ m) (n2 : e ≠ h) (n3 : ge ≠ m) (n4 : ge ≠ h) :
    Calls Try.prog 27 #[.pointer (some ⟨e, 0, none⟩), .pointer (some ⟨m, 0, none⟩), .int .i64 k] w fun en w' => ∃ g' c', en = .returned (.tuple #[]) ∧ RIs w' e (rsymS R L k) g' c' ∧ Mdl.IsR w' m h cap (Mdl.next f L k) f ∧
      Only (fun i => (i = e ∨ i = ge) ∨ (i = m ∨ i = h)) w w' ∧ (g' = ge ∨ w.heap.size ≤ g') := by
  have A := Lib.hid a
  have B := Lib.hid b
  have G := Lib.hid good
  have HK := Lib.hid hk
  have MY := Lib.hid (may_of good k hk)
  have RD := Lib.hid ok
  have lm := b.blk.lt
  have lh := b.row.lt
  have hl64 := good.len2
  have d0 := b.blk.cell (i := 0) rfl
  have dk := b.row.cell hk
  have HSy : Hid (rsymS R L k = rputS R (Mdl.lsum (L.take k)) (L.getD k 0) (Mdl.lsum L)) := Lib.hid (by unfold rsymS; rfl)
  have hall := good.all
  have C1 : Hid (∀ n, Calls Try.prog 63 #[.pointer (some ⟨m, 0, none⟩), .int .i64 k] (w.drewN n) fun e w' => e = .returned (.int .i64 (Mdl.lsum (L.take k))) ∧ w' = w.drewN n) := Lib.hid (fun n => Mdl.RSum_calls (b.drewN n) good.nonneg (by omega) k (by omega) hl64)
  have C2 : Hid (∀ n, Calls Try.prog 63 #[.pointer (some ⟨m, 0, none⟩), .int .i64 L.length] (w.drewN n) fun e w' => e = .returned (.int .i64 (Mdl.lsum (L.take L.length))) ∧ w' = w.drewN n) := Lib.hid (fun n => Mdl.RSum_calls (b.drewN n) good.nonneg (by omega) L.length (by omega) hl64)
  have hg : L.getD k 0 = L[k] := getD_get L k hk
  rw [List.take_of_length_le (Nat.le_refl _)] at C2
  rw [hg] at MY HSy
  obtain ⟨n, hn⟩ : ∃ n, L.length = n := ⟨_, rfl⟩
  rw [hn] at d0 C2 HK
  have ik : (k : Int) < (n : Int) := by omega
  generalize L[k]'hk = ow at *
  generalize Mdl.lsum (L.take k) = lo at *
  generalize Mdl.lsum L = al at *
  have HN := Lib.hid hn
  clear a b good ok hk hg hn
  go_enter Try.func27, Try.ntmps27
  go_wp2
  refine region_quiet_tail 18 (by kernel_rfl) (by kernel_rfl) ?_
  simp only [List.take_succ_cons, List.take_zero, List.drop_succ_cons, List.drop_zero]
  repeat (quiet_step ((go_at_call 63; first | (with_reducible exact Calls.quiet_of_same (C1.out _)) | (with_reducible exact Calls.quiet_of_same (C2.out _)))))
  refine wpQuiet_nil ?_
  rintro _ ⟨nq, rfl⟩
  go_wp2_with (first
    | (go_at_call 30
       refine (RPut_yes (A.out.drewN nq) RD.out small lo ow al MY.out).mono ?_
       rintro e2 w2 ⟨g2, c2, rfl, a2, s2⟩
       have A2 := Lib.hid a2
       have O2 : Hid (Only (fun i => (i = e ∨ i = ge) ∨ (i = m ∨ i = h)) w w2) := Lib.hid ((((Only.refl _ w).drewN nq : Only (fun i => (i = e ∨ i = ge) ∨ (i = m ∨ i = h)) w (w.drewN nq))).then s2.only (fun i hi => .inl (.inl hi)))
       have W2 : Hid (g2 = ge ∨ w.heap.size ≤ g2) := Lib.hid s2.own
       have B2 : Hid (Mdl.IsR w2 m h cap L f) := Lib.hid ((B.out.drewN nq).only s2.only (fun hh => by rcases hh with hh | hh; exact n1 hh.symm; exact n3 hh.symm) (fun hh => by rcases hh with hh | hh; exact n2 hh.symm; exact n4 hh.symm))
       clear a2 s2)
    | (go_at_call 64
       refine (Mdl.RLearn_any B2.out G.out k (by rw [HN.out]; exact HK.out)).mono ?_
       rintro e3 w3 ⟨rfl, b3, o3⟩
       have B3 := Lib.hid b3
       have A3 : Hid (RIs w3 e (rputS R lo ow al) g2 c2) := Lib.hid (A2.out.only o3 (fun hh => by rcases hh with hh | hh; exact n1 hh; exact n2 hh) (fun hh => by
         rcases W2.out with h1 | h1
         · subst h1
           rcases hh with hh | hh
           · exact n3 hh
           · exact n4 hh
         · rcases hh with hh | hh
           · omega
           · omega))
       have O3 : Hid (Only (fun i => (i = e ∨ i = ge) ∨ (i = m ∨ i = h)) w w3) := Lib.hid (O2.out.then o3 (fun i hi => .inl (.inr hi)))
       clear b3 o3))
  rw [HSy.out]
  exact bodyPost_end (results_none rfl _ _ _) rfl ⟨g2, c2, rfl, A3.out, B3.out, O3.out, W2.out⟩
def RPost (e g : Nat) (R : RSt) (w : World) (en : Ending) (w' : World) : Prop := ∃ g' c', en = .returned (.tuple #[]) ∧ RIs w' e R g' c' ∧ RStep e g g' w w'
set_option maxHeartbeats 4000000 in
set_option maxRecDepth 100000 in
theorem RBits_yes {w : World} {e g c : Nat} {R : RSt} (a : RIs w e R g c) (ok : RGood R) (small : R.K ≤ 800000000) (n : Int) (wide : Nat) (h0 : 0 ≤ n) (h1 : n < 2 ^ wide) (h2 : wide ≤ 24) :
    Calls Try.prog 28 #[.pointer (some ⟨e, 0, none⟩), .int .i64 n, .int .i64 wide] w (RPost e g (rbitsS R n wide) w) := by
  have hn32 : n < 16777216 := by
    have h4 := Nat.pow_le_pow_right (show 0 < 2 by decide) h2
    have h5 : (2 : Int) ^ wide ≤ 2 ^ 24 := by exact_mod_cast h4
    have e24 : (2 : Int) ^ 24 = 16777216 := by decide
    omega
  have A := Lib.hid a
  have R0 := Lib.hid ok
  clear a ok
  go_enter Try.func28, Try.ntmps28
  go_wp2
  go_loopw [2] (fun u wr => ∃ (j : Nat) (t : RSt) (g' c' : Nat), j ≤ 24 ∧ u = .int .i64 (j : Int) ∧ Hid (rbitsS t n j = rbitsS R n wide) ∧ Hid (RGood t) ∧ t.K + 2 * j ≤ 800000048 ∧ Hid (RIs wr e t g' c') ∧ Hid (RStep e g g' w wr)) (fun u _ => (intOf u).toNat)
  case atStart => exact ⟨wide, R, g, c, h2, rfl, rfl, R0, by omega, A, RStep.refl e g w⟩
  case round =>
    clear A R0
    obtain ⟨j, t, g', c', hj, rfl, HN, R0, hkk, A, S0⟩ := hrel
    by_cases hz : 0 < j
    · obtain ⟨k, i, hk0, hk12, hji, HSt⟩ : ∃ k i : Nat, 0 < k ∧ k ≤ 12 ∧ j = i + k ∧ (Hid (rbitsS t n j = rbitsS (rputS t (n / 2 ^ i % 2 ^ k) 1 (2 ^ k)) n i) ∧ k = min j 12) := by
        by_cases hc : 12 < j
        · exact ⟨12, j - 12, by omega, by omega, by omega, rbits_step t n j (j - 12) (by omega) (by omega) (by omega), by omega⟩
        · refine ⟨j, 0, hz, by omega, by omega, ?_, by omega⟩
          show _ = _
          rw [rbits_last t n j hz (by omega), rbits_nought, Int.pow_zero, Int.ediv_one]
      obtain ⟨HSt, hkm⟩ := HSt
      have hpk : (1 : Int) ≤ 2 ^ k ∧ (2 : Int) ^ k ≤ 4096 := by
        have h3 : (0 : Int) < 2 ^ k := Int.pow_pos (by omega)
        have h4 := Nat.pow_le_pow_right (show 0 < 2 by decide) (show k ≤ 12 by omega)
        have h5 : (2 : Int) ^ k ≤ 2 ^ 12 := by exact_mod_cast h4
        have e12 : (2 : Int) ^ 12 = 4096 := by decide
        omega
      have hpi : (1 : Int) ≤ 2 ^ i := by have : (0 : Int) < 2 ^ i := Int.pow_pos (by omega); omega
      have hx0 : 0 ≤ n / 2 ^ i := Int.ediv_nonneg h0 (by omega)
      have hx1 : n / 2 ^ i ≤ n := Int.ediv_le_self _ h0
      have hq0 := Int.emod_nonneg (n / 2 ^ i) (show (2 : Int) ^ k ≠ 0 by omega)
      have hq1 := Int.emod_lt_of_pos (n / 2 ^ i) (show (0 : Int) < 2 ^ k by omega)
      have PI : Hid (∀ q, Calls Try.prog 65 #[.int .i64 i] (wr.drewN q) fun e w' => e = .returned (.int .i64 (2 ^ i)) ∧ w' = wr.drewN q) := Lib.hid (fun q => power_calls i (by omega) _)
      have PK : Hid (∀ q, Calls Try.prog 65 #[.int .i64 k] (wr.drewN q) fun e w' => e = .returned (.int .i64 (2 ^ k)) ∧ w' = wr.drewN q) := Lib.hid (fun q => power_calls k (by omega) _)
      generalize (2 : Int) ^ i = pi at *
      generalize (2 : Int) ^ k = pk at *
      obtain ⟨x, hx⟩ : ∃ x, x = n / pi := ⟨_, rfl⟩
      rw [← hx] at hx0 hx1 hq0 hq1 HSt
      obtain ⟨y, hy⟩ : ∃ y, y = x % pk := ⟨_, rfl⟩
      rw [← hy] at hq0 hq1 HSt
      have MY : Hid (May y 1 pk) := Lib.hid ⟨hq0, by omega, by omega, by omega⟩
      have HP := Lib.hid (rput_good R0.out MY.out)
      have z1 : pi ≠ 0 := by omega
      have z2 : (pi == 0) = false := by rw [beq_eq_false_iff_ne]; omega
      have z3 : pk ≠ 0 := by omega
      have z4 : (pk == 0) = false := by rw [beq_eq_false_iff_ne]; omega
      have HJ : Hid (t.K + 2 * i + 2 ≤ 800000048) := Lib.hid (by omega)
      have HI : Hid (i < j ∧ i ≤ 24) := Lib.hid (by omega)
      have tk : t.K ≤ 900000000 := by omega
      have t1 : Int.tdiv n pi = x := (Int.tdiv_eq_ediv_of_nonneg h0).trans hx.symm
      have t2 : Int.tmod x pk = y := (Int.tmod_eq_emod_of_nonneg hx0).trans hy.symm
      have w1 : IntKind.i64.wrap x = x := wrapI64 (by omega) (by omega)
      have w2 : IntKind.i64.wrap y = y := wrapI64 (by omega) (by omega)
      by_cases hc : 12 < j
      · obtain rfl : k = 12 := by omega
        have hji2 : (j : Int) - 12 = (i : Int) := by omega
        have w3 : IntKind.i64.wrap (i : Int) = (i : Int) := wrapI64 (by omega) (by omega)
        clear hkm hji hx0 hx1 hq0 hq1 hpi hpk hx hy
        go_wp2
        refine region_quiet_tail 10 (by kernel_rfl) (by kernel_rfl) ?_
        simp only [List.take_succ_cons, List.take_zero, List.drop_succ_cons, List.drop_zero]
        repeat (quiet_step ((go_at_call 65; first | (with_reducible exact Calls.quiet_of_same (PI.out _)) | (with_reducible exact Calls.quiet_of_same (PK.out _)))))
        refine wpQuiet_nil ?_
        rintro _ ⟨nq, rfl⟩
        go_wp2_with (first
          | (go_at_call 30
             refine (RPut_yes (A.out.drewN nq) R0.out tk _ _ _ MY.out).mono ?_
             rintro e4 w4 ⟨g4, c4, rfl, a4, s4⟩
             have A4 := Lib.hid a4
             have S4 : Hid (RStep e g g4 w w4) := Lib.hid ((S0.out.below (pw_below_drewN (Below.refl _ _) nq)).trans s4)
             clear a4 s4))
        go_roundw
        case rel => exact ⟨i, rputS t y 1 pk, g4, c4, HI.out.2, rfl, HSt.out.symm.trans HN.out, HP.out.1, by have := HP.out.2.2; have := HJ.out; omega, A4, S4⟩
        case measure => simp [intOf]; exact HI.out.1
      · obtain rfl : k = j := by omega
        obtain rfl : i = 0 := by omega
        clear hkm hji hx0 hx1 hq0 hq1 hpi hpk hx hy
        go_wp2
        refine region_quiet_tail 10 (by kernel_rfl) (by kernel_rfl) ?_
        simp only [List.take_succ_cons, List.take_zero, List.drop_succ_cons, List.drop_zero]
        repeat (quiet_step ((go_at_call 65; first | (with_reducible exact Calls.quiet_of_same (PI.out _)) | (with_reducible exact Calls.quiet_of_same (PK.out _)))))
        refine wpQuiet_nil ?_
        rintro _ ⟨nq, rfl⟩
        go_wp2_with (first
          | (go_at_call 30
             refine (RPut_yes (A.out.drewN nq) R0.out tk _ _ _ MY.out).mono ?_
             rintro e4 w4 ⟨g4, c4, rfl, a4, s4⟩
             have A4 := Lib.hid a4
             have S4 : Hid (RStep e g g4 w w4) := Lib.hid ((S0.out.below (pw_below_drewN (Below.refl _ _) nq)).trans s4)
             clear a4 s4))
        go_roundw
        case rel => exact ⟨0, rputS t y 1 pk, g4, c4, HI.out.2, rfl, HSt.out.symm.trans HN.out, HP.out.1, by have := HP.out.2.2; have := HJ.out; omega, A4, S4⟩
        case measure => simp [intOf]; exact HI.out.1
    · obtain rfl : j = 0 := by omega
      rw [rbits_nought] at HN
      have HF := Lib.hid HN.out.symm
      clear HN
      go_wp2
      rw [HF.out]
      exact bodyPost_end (results_none rfl _ _ _) rfl ⟨g', c', rfl, A.out, S0.out⟩
end Go.Proofs.Ytlbjoflmfboeeaa.Enc

/-
  The walks of the document's decoder: next, Open, At, Take, Symbol, Bits; no condition but those told.
-/
set_option linter.unusedVariables false
set_option linter.unusedSimpArgs false
namespace Go.Proofs.Ytlbjoflmfboeeaa.Deco
open Go.RowKit Go.Proofs.Ytlbjoflmfboeeaa Go.Proofs.YtlbjoflmfboeeaaW.PrintWords

attribute [local irreducible] bt
set_option maxHeartbeats 2000000 in
set_option maxRecDepth 100000 in
theorem rnext_calls {w : World} {d : Nat} {s : DSt} {v : Value} (a : Is w d 69 .i64 s v) (hb : Byt s.bs) (c0 : 0 ≤ s.co) (c1 : s.co < 16777216) (hn : s.n ≤ 1000000000000) :
    Calls Try.prog 68 #[.pointer (some ⟨d, 0, none⟩)] w fun e w' => e = .returned (.tuple #[]) ∧ Is w' d 69 .i64 (nextS s) v ∧ At d w w' := by
  have hbt := bt_bd hb
  have HBt : Hid (bt s = s.bs.getD s.n 0) := Lib.hid (by unfold bt; rfl)
  have A := Lib.hid a
  obtain ⟨bs, n, co, sz⟩ := s
  simp only at *
  have d2 := a.blk.cell (i := 2) rfl
  have f2 := a.blk.free 2
  have hl := hb.2
  have HNx : Hid (nextS ⟨bs, n, co, sz⟩ = ⟨bs, n + 1, co * 256 + bt ⟨bs, n, co, sz⟩, sz⟩) := Lib.hid rfl
  generalize bt ⟨bs, n, co, sz⟩ = x at *
  clear a hb
  have e1 : IntKind.i64.wrap (co * 256) = co * 256 := wrapI64 (by omega) (by omega)
  go_enter Try.func68, Try.ntmps68
  go_wp2
  have A2 := Lib.hid (A.out.co_ (co * 256))
  have O2 := Lib.hid ((At.refl d w).cell 2 (.int .i64 (co * 256)))
  clear d2 f2 A
  generalize w.setCell ⟨d, 2, none⟩ (.int .i64 (co * 256)) = w2 at *
  have d0 := A2.out.blk.cell (i := 0) rfl
  have d1 := A2.out.blk.cell (i := 1) rfl
  have d2 := A2.out.blk.cell (i := 2) rfl
  have f1 := A2.out.blk.free 1
  have f2 := A2.out.blk.free 2
  by_cases hc : n < bs.length
  · obtain ⟨g, cap, rfl, hr⟩ : ∃ g cap, v = .slice (some ⟨g, 0, none⟩) bs.length cap ∧ RowI w2 5 .u8 g cap bs := by
      rcases A2.out.sl with ⟨_, h⟩ | h
      · simp only at h; subst h; simp at hc
      · exact h
    have d3 := hr.cell hc
    have hx : bs[n] = x := by rw [HBt.out, List.getD_eq_getElem?_getD, List.getElem?_eq_getElem hc]; rfl
    rw [hx] at d3
    have e2 : IntKind.i64.wrap (co * 256 + x) = co * 256 + x := wrapI64 (by omega) (by omega)
    have e3 : IntKind.i64.wrap x = x := wrapI64 (by omega) (by omega)
    have HC := Lib.hid hc
    have i1 : (n : Int) < bs.length := by omega
    clear hr hx HBt
    go_quiet (fail)
    have A3 := Lib.hid (A2.out.drewN nq)
    have O3 := Lib.hid (O2.out.drewN nq)
    clear d0 d1 d2 f1 f2 A2 O2
    have d3 : (w2.drewN nq).cell? ⟨g, n, none⟩ = some (.int .u8 x) := d3
    generalize w2.drewN nq = w3 at *
    have d0 := A3.out.blk.cell (i := 0) rfl
    have d1 := A3.out.blk.cell (i := 1) rfl
    have d2 := A3.out.blk.cell (i := 2) rfl
    have f1 := A3.out.blk.free 1
    have f2 := A3.out.blk.free 2
    go_wp2
    go_still_tail 19, (by kernel_rfl)
    go_wp2
    rw [HNx.out]
    exact bodyPost_end (results_none rfl _ _ _) rfl ⟨rfl, (A3.out.co_ _).inc.drew, ((At.cell O3.out 2 _).cell 1 _).drew⟩
  · have hx : x = 0 := by rw [HBt.out, List.getD_eq_getElem?_getD, List.getElem?_eq_none (by omega)]; rfl
    have HC := Lib.hid hc
    subst hx
    rw [Int.add_zero] at HNx
    obtain ⟨ad, cap, rfl, _⟩ := A2.out.sl.form
    have i1 : ¬ (n : Int) < bs.length := by omega
    clear HBt
    go_quiet (fail)
    have A3 := Lib.hid (A2.out.drewN nq)
    have O3 := Lib.hid (O2.out.drewN nq)
    clear d0 d1 d2 f1 f2 A2 O2
    generalize w2.drewN nq = w3 at *
    have d1 := A3.out.blk.cell (i := 1) rfl
    have f1 := A3.out.blk.free 1
    go_wp2
    rw [HNx.out]
    exact bodyPost_end (results_none rfl _ _ _) rfl ⟨rfl, A3.out.inc, At.cell O3.out 1 _⟩
theorem rat_calls {w : World} {d : Nat} {s : DSt} {v : Value} (a : Is w d 69 .i64 s v) (ok : s.Ready) (al : Int) (a0 : 1 ≤ al) (a1 : al ≤ 8192) :
    Calls Try.prog 73 #[.pointer (some ⟨d, 0, none⟩), .int .i64 al] w fun e w' => e = .returned (.int .i64 (atS s al)) ∧ ∃ n, w' = w.drewN n := by
  have d2 := a.blk.cell (i := 2) rfl
  have d3 := a.blk.cell (i := 3) rfl
  obtain ⟨each, hE⟩ : ∃ each, each = s.sz / al := ⟨_, rfl⟩
  have b3 := Enc.each_lo al s.sz a0 a1 ok.s0
  rw [← hE] at b3
  have HA : Hid (atS s al = min (s.co / each) (al - 1)) := Lib.hid (by unfold atS; rw [hE])
  have e1 : Int.tdiv s.sz al = each := by rw [hE, Int.tdiv_eq_ediv_of_nonneg (by have := ok.s0; omega)]
  have b5 : each ≤ s.sz := by rw [hE]; exact Int.ediv_le_self _ (by have := ok.s0; omega)
  obtain ⟨hb, c0, c1, s0, s1⟩ := ok
  obtain ⟨q, hq⟩ : ∃ q, q = s.co / each := ⟨_, rfl⟩
  have e2 : Int.tdiv s.co each = q := by rw [hq, Int.tdiv_eq_ediv_of_nonneg c0]
  have q0 : 0 ≤ q := by rw [hq]; exact Int.ediv_nonneg c0 (by omega)
  have q1 : q ≤ s.co := by rw [hq]; exact Int.ediv_le_self _ c0
  rw [← hq] at HA
  have z1 : al ≠ 0 := by omega
  have z2 : (al == 0) = false := by rw [beq_eq_false_iff_ne]; omega
  have z3 : each ≠ 0 := by omega
  have z4 : (each == 0) = false := by rw [beq_eq_false_iff_ne]; omega
  have w1 : IntKind.i64.wrap each = each := wrapI64 (by omega) (by omega)
  have w2 : IntKind.i64.wrap q = q := wrapI64 (by omega) (by omega)
  have w3 : IntKind.i64.wrap (al - 1) = al - 1 := wrapI64 (by omega) (by omega)
  clear hE hq a hb
  obtain ⟨bs, n, co, sz⟩ := s
  simp only at *
  go_enter Try.func73, Try.ntmps73
  go_wp2
  go_quiet (fail)
  by_cases h : al ≤ q
  · have hm : min q (al - 1) = al - 1 := by omega
    rw [hm] at HA
    go_wp2
    go_ret
    rw [HA.out]
    exact ⟨rfl, nq, rfl⟩
  · have hm : min q (al - 1) = q := by omega
    rw [hm] at HA
    go_wp2
    go_ret
    rw [HA.out]
    exact ⟨rfl, nq, rfl⟩
set_option maxHeartbeats 4000000 in
set_option maxRecDepth 100000 in
theorem rtake_calls {w : World} {d : Nat} {s : DSt} {v : Value} (a : Is w d 69 .i64 s v) (ok : s.Ready) (lo ow al : Int) (may : Enc.May lo ow al) (le : s.sz / al * lo ≤ s.co) (hn : s.n ≤ 900000000000) :
    Calls Try.prog 74 #[.pointer (some ⟨d, 0, none⟩), .int .i64 lo, .int .i64 ow, .int .i64 al] w fun e w' => e = .returned (.tuple #[]) ∧ Is w' d 69 .i64 (takeS s lo ow al) v ∧ At d w w' := by
  obtain ⟨p0, p1, p2, p3⟩ := may
  have hd := a.blk.lt
  obtain ⟨each, hE⟩ : ∃ each, each = s.sz / al := ⟨_, rfl⟩
  obtain ⟨q, hq⟩ : ∃ q, q = each * lo := ⟨_, rfl⟩
  obtain ⟨r, hr⟩ : ∃ r, r = each * ow := ⟨_, rfl⟩
  have b1 := Enc.mul_bd each lo al s.sz hE (by omega) p0 (by omega) (by have := ok.s0; omega)
  have b2 := Enc.mul_bd each ow al s.sz hE (by omega) (by omega) (by omega) (by have := ok.s0; omega)
  have b3 := Enc.each_lo al s.sz (by omega) p3 ok.s0
  have b4 : each * 1 ≤ each * ow := Int.mul_le_mul_of_nonneg_left p1 (by omega)
  have b5 : each ≤ s.sz := by rw [hE]; exact Int.ediv_le_self _ (by have := ok.s0; omega)
  have HT : Hid (takeS s lo ow al = dnorm 2 ⟨s.bs, s.n, min (s.co - q) (r - 1), r⟩) := Lib.hid (by unfold takeS; rw [hq, hr, hE])
  have e1 : Int.tdiv s.sz al = each := by rw [hE, Int.tdiv_eq_ediv_of_nonneg (by have := ok.s0; omega)]
  rw [← hE, ← hq] at le
  rw [← hE] at b3
  rw [← hq] at b1
  rw [← hr] at b2 b4
  rw [Int.mul_one] at b4
  have e2 : each * lo = q := hq.symm
  have e3 : each * ow = r := hr.symm
  have BY := Lib.hid ok.by_
  have A := Lib.hid a
  obtain ⟨_, c0, c1, s0, s1⟩ := ok
  obtain ⟨bs, n, co, sz⟩ := s
  simp only at *
  have d3 := a.blk.cell (i := 3) rfl
  have d2 := a.blk.cell (i := 2) rfl
  have f2 := a.blk.free 2
  have f3 := a.blk.free 3
  have z1 : al ≠ 0 := by omega
  have z2 : (al == 0) = false := by rw [beq_eq_false_iff_ne]; omega
  have w1 : IntKind.i64.wrap each = each := wrapI64 (by omega) (by omega)
  have w2 : IntKind.i64.wrap q = q := wrapI64 (by omega) (by omega)
  have w3 : IntKind.i64.wrap r = r := wrapI64 (by omega) (by omega)
  have w4 : IntKind.i64.wrap (co - q) = co - q := wrapI64 (by omega) (by omega)
  have w5 : IntKind.i64.wrap (r - 1) = r - 1 := wrapI64 (by omega) (by omega)
  obtain ⟨x, hx⟩ : ∃ x, x = min (co - q) (r - 1) := ⟨_, rfl⟩
  rw [← hx] at HT
  have x0 : 0 ≤ x := by omega
  have x1 : x ≤ r - 1 := by omega
  clear hE hq hr a
  go_enter Try.func74, Try.ntmps74
  go_wp2
  have A3 := Lib.hid ((A.out.co_ (co - q)).sz_ r)
  have O3 := Lib.hid (At.cell (At.cell (At.refl d w) 2 (.int .i64 (co - q))) 3 (.int .i64 r))
  clear d2 d3 f2 f3 A
  generalize ((w.setCell ⟨d, 2, none⟩ (.int .i64 (co - q))).setCell ⟨d, 3, none⟩ (.int .i64 r)) = w3 at *
  have d2 := A3.out.blk.cell (i := 2) rfl
  have d3 := A3.out.blk.cell (i := 3) rfl
  have f2 := A3.out.blk.free 2
  have f3 := A3.out.blk.free 3
  go_quiet (fail)
  by_cases hc : r ≤ co - q
  · obtain rfl : x = r - 1 := by omega
    clear hx
    have d2 : (w3.drewN nq).cell? ⟨d, 2, none⟩ = _ := d2
    have d3 : (w3.drewN nq).cell? ⟨d, 3, none⟩ = _ := d3
    have f2 : (w3.drewN nq).frozen? ⟨d, 2, none⟩ = _ := f2
    go_wp2_with fail
    have A4 := Lib.hid ((A3.out.drewN nq).co_ (r - 1))
    have O4 := Lib.hid (At.cell (O3.out.drewN nq) 2 (.int .i64 (r - 1)))
    clear d2 d3 f2 f3 A3 O3 w1 w4 w5 e1 e2 e3
    generalize ((w3.drewN nq).setCell ⟨d, 2, none⟩ (.int .i64 (r - 1))) = w4 at *
    go_loopg [] 2 (fun j wr => ∃ t : DSt, j ≤ 2 ∧ Enc.lw j ≤ t.sz ∧ t.sz < 4294967296 ∧ 0 ≤ t.co ∧ t.co < t.sz ∧ Hid (Byt t.bs) ∧ t.n + j ≤ 900000000002 ∧ Hid (dnorm j t = takeS ⟨bs, n, co, sz⟩ lo ow al) ∧ Hid (Is wr d 69 .i64 t v) ∧ Hid (At d w wr))
    case atStart => exact ⟨⟨bs, n, r - 1, r⟩, Nat.le_refl _, by show (256 : Int) ≤ r; omega, by simp only; omega, x0, by simp only; omega, BY, by simp only; omega, HT.out.symm, A4, O4⟩
    case round =>
      clear A4 O4 HT BY
      obtain ⟨t, hj2, hlw, ts1, t0, t1, BY, hnn, HN, A3, O3⟩ := hrel
      have d3 := A3.out.blk.cell (i := 3) rfl
      have f3 := A3.out.blk.free 3
      by_cases hc : t.sz < 16777216
      · have hg : 0 < gk := by
          rcases Nat.eq_zero_or_pos gk with h | h
          · subst h; have : (16777216 : Int) ≤ t.sz := hlw; omega
          · exact h
        obtain ⟨j, rfl⟩ : ∃ j, gk = j + 1 := ⟨gk - 1, by omega⟩
        have HSt : Hid (dnorm (j + 1) t = dnorm j (nextS ⟨t.bs, t.n, t.co, t.sz * 256⟩)) := Lib.hid (by show (if t.sz < 16777216 then dnorm j (nextS ⟨t.bs, t.n, t.co, t.sz * 256⟩) else t) = _; rw [if_pos hc])
        have hlw2 : Enc.lw j ≤ t.sz * 256 := by
          rcases (show j = 0 ∨ j = 1 by omega) with h | h
          · subst h; have : (65536 : Int) ≤ t.sz := hlw; show (16777216 : Int) ≤ _; omega
          · subst h; have : (256 : Int) ≤ t.sz := hlw; show (65536 : Int) ≤ _; omega
        have NX := Lib.hid (rnext_calls (A3.out.sz_ (t.sz * 256)) BY.out t0 (by simp only; omega) (by simp only; omega))
        have O4 := Lib.hid (At.cell O3.out 3 (.int .i64 (t.sz * 256)))
        have w1 : IntKind.i64.wrap (t.sz * 256) = t.sz * 256 := wrapI64 (by omega) (by omega)
        have hbt := bt_bd (s := ⟨t.bs, t.n, t.co, t.sz * 256⟩) BY.out
        clear hlw
        obtain ⟨tsz, htz⟩ : ∃ tsz, t.sz = tsz := ⟨_, rfl⟩
        rw [htz] at d3 ts1 t1 hc hlw2 O4 NX HSt w1 hbt
        clear htz
        go_wp2_with (go_at_call 68; refine NX.out.mono ?_; rintro e w4 ⟨rfl, a4, o4⟩; have A4 := Lib.hid a4; have O5 := Lib.hid (O4.out.trans o4); clear a4 o4)
        go_roundg j
        case measure => omega
        case rel => exact ⟨nextS ⟨t.bs, t.n, t.co, tsz * 256⟩, by omega, hlw2, by show tsz * 256 < _; omega, by show 0 ≤ t.co * 256 + _; omega, by show t.co * 256 + _ < tsz * 256; omega, BY, by show t.n + 1 + j ≤ _; omega, HSt.out.symm.trans HN.out, A4, O5⟩
      · have HF : Hid (takeS ⟨bs, n, co, sz⟩ lo ow al = t) := Lib.hid (HN.out.symm.trans (by
          cases gk with
          | zero => rfl
          | succ j => show (if t.sz < 16777216 then dnorm j _ else t) = _; rw [if_neg hc]))
        clear HN
        go_wp2
        rw [HF.out]
        exact bodyPost_end (results_none rfl _ _ _) rfl ⟨rfl, A3.out, O3.out⟩
  · obtain rfl : x = co - q := by omega
    clear hx
    go_wp2_with fail
    have A4 := Lib.hid (A3.out.drewN nq)
    have O4 := Lib.hid (O3.out.drewN nq)
    clear d2 d3 f2 f3 A3 O3 w1 w4 w5 e1 e2 e3
    generalize (w3.drewN nq) = w4 at *
    go_loopg [] 2 (fun j wr => ∃ t : DSt, j ≤ 2 ∧ Enc.lw j ≤ t.sz ∧ t.sz < 4294967296 ∧ 0 ≤ t.co ∧ t.co < t.sz ∧ Hid (Byt t.bs) ∧ t.n + j ≤ 900000000002 ∧ Hid (dnorm j t = takeS ⟨bs, n, co, sz⟩ lo ow al) ∧ Hid (Is wr d 69 .i64 t v) ∧ Hid (At d w wr))
    case atStart => exact ⟨⟨bs, n, co - q, r⟩, Nat.le_refl _, by show (256 : Int) ≤ r; omega, by simp only; omega, x0, by simp only; omega, BY, by simp only; omega, HT.out.symm, A4, O4⟩
    case round =>
      clear A4 O4 HT BY
      obtain ⟨t, hj2, hlw, ts1, t0, t1, BY, hnn, HN, A3, O3⟩ := hrel
      have d3 := A3.out.blk.cell (i := 3) rfl
      have f3 := A3.out.blk.free 3
      by_cases hc : t.sz < 16777216
      · have hg : 0 < gk := by
          rcases Nat.eq_zero_or_pos gk with h | h
          · subst h; have : (16777216 : Int) ≤ t.sz := hlw; omega
          · exact h
        obtain ⟨j, rfl⟩ : ∃ j, gk = j + 1 := ⟨gk - 1, by omega⟩
        have HSt : Hid (dnorm (j + 1) t = dnorm j (nextS ⟨t.bs, t.n, t.co, t.sz * 256⟩)) := Lib.hid (by show (if t.sz < 16777216 then dnorm j (nextS ⟨t.bs, t.n, t.co, t.sz * 256⟩) else t) = _; rw [if_pos hc])
        have hlw2 : Enc.lw j ≤ t.sz * 256 := by
          rcases (show j = 0 ∨ j = 1 by omega) with h | h
          · subst h; have : (65536 : Int) ≤ t.sz := hlw; show (16777216 : Int) ≤ _; omega
          · subst h; have : (256 : Int) ≤ t.sz := hlw; show (65536 : Int) ≤ _; omega
        have NX := Lib.hid (rnext_calls (A3.out.sz_ (t.sz * 256)) BY.out t0 (by simp only; omega) (by simp only; omega))
        have O4 := Lib.hid (At.cell O3.out 3 (.int .i64 (t.sz * 256)))
        have w1 : IntKind.i64.wrap (t.sz * 256) = t.sz * 256 := wrapI64 (by omega) (by omega)
        have hbt := bt_bd (s := ⟨t.bs, t.n, t.co, t.sz * 256⟩) BY.out
        clear hlw
        obtain ⟨tsz, htz⟩ : ∃ tsz, t.sz = tsz := ⟨_, rfl⟩
        rw [htz] at d3 ts1 t1 hc hlw2 O4 NX HSt w1 hbt
        clear htz
        go_wp2_with (go_at_call 68; refine NX.out.mono ?_; rintro e w4 ⟨rfl, a4, o4⟩; have A4 := Lib.hid a4; have O5 := Lib.hid (O4.out.trans o4); clear a4 o4)
        go_roundg j
        case measure => omega
        case rel => exact ⟨nextS ⟨t.bs, t.n, t.co, tsz * 256⟩, by omega, hlw2, by show tsz * 256 < _; omega, by show 0 ≤ t.co * 256 + _; omega, by show t.co * 256 + _ < tsz * 256; omega, BY, by show t.n + 1 + j ≤ _; omega, HSt.out.symm.trans HN.out, A4, O5⟩
      · have HF : Hid (takeS ⟨bs, n, co, sz⟩ lo ow al = t) := Lib.hid (HN.out.symm.trans (by
          cases gk with
          | zero => rfl
          | succ j => show (if t.sz < 16777216 then dnorm j _ else t) = _; rw [if_neg hc]))
        clear HN
        go_wp2
        rw [HF.out]
        exact bodyPost_end (results_none rfl _ _ _) rfl ⟨rfl, A3.out, O3.out⟩
set_option maxHeartbeats 2000000 in
set_option maxRecDepth 100000 in
theorem Open_calls {w : World} {u : Value} {bs : List Int} (src : Src w .u8 u bs) (hb : Byt bs) :
    Calls Try.prog 34 #[u] w fun e w' => ∃ d v, e = .returned (.pointer (some ⟨d, 0, none⟩)) ∧ w.heap.size ≤ d ∧ (∀ g, v.ownBlock = some g → w.heap.size ≤ g) ∧ Is w' d 69 .i64 (openS bs) v ∧ Below w.heap.size w w' := by
  have hl := hb.2
  have S0 := Lib.hid (Sl.empty w 5 .u8)
  have SR := Lib.hid (Src.below src ((Below.refl _ _).alloc (Nat.le_refl _) (.cells #[] 5) : Below _ _ _))
  have HB := Lib.hid hb
  clear src hb
  go_enter Try.func34, Try.ntmps34
  go_wp2_with (at_builtin; refine wpList_add (.tmp 5) (.tmp 6) 35 5 .u8 0 1 rfl rfl Try.underlying35 Enc.info_u8 _ _ [] bs rfl rfl S0.out SR.out (by simp; omega) (by simp; omega) ?_
               intro v1 w1 hp
               have S1 := Lib.hid hp.sl
               have O1 := Lib.hid (Added.fresh hp).2
               have hs1 := (Added.fresh hp).1.size
               have B1 := Lib.hid (Added.fresh hp).1
               clear hp
               obtain ⟨ad, cap, rfl, _⟩ := S1.out.form
               rw [List.nil_append] at S1 O1)
  have HI : Hid (Is (w1.alloc (.cells #[.slice ad bs.length cap, .int .i64 0, .int .i64 0, .int .i64 4294967295] 69)) w1.heap.size 69 .i64 ⟨bs, 0, 0, 4294967295⟩ (.slice ad bs.length cap)) :=
    Lib.hid ⟨Blk.new w1 _ _, S1.out.alloc _, fun e => by have := S1.out.lt e; omega⟩
  have B2 : Hid (Below w.heap.size w (w1.alloc (.cells #[.slice ad bs.length cap, .int .i64 0, .int .i64 0, .int .i64 4294967295] 69))) := Lib.hid (B1.out.alloc hs1 _)
  clear B1
  go_loopw [4] (fun i wr => ∃ (k : Nat) (t : DSt), k ≤ 4 ∧ i = .int .i64 (k : Int) ∧ Hid (nexts (4 - k) t = openS bs) ∧ Hid (Byt t.bs) ∧ 0 ≤ t.co ∧ Hid (t.co < 256 ^ k) ∧ t.n = k ∧ Hid (Is wr w1.heap.size 69 .i64 t (.slice ad bs.length cap)) ∧ Hid (Below w.heap.size w wr)) (fun i _ => 4 - (intOf i).toNat)
  case atStart => exact ⟨0, ⟨bs, 0, 0, 4294967295⟩, by omega, rfl, rfl, HB, by simp only; omega, Lib.hid (by show (0 : Int) < 256 ^ 0; decide), rfl, HI, B2⟩
  case round =>
    clear HI B2 HB
    obtain ⟨k, t, hk, rfl, HN, HB, t0, HL, hn, HI, B2⟩ := hrel
    by_cases hlt : k < 4
    · have hp := pow_lt4 hlt
      have hL := HL.out
      have NX := Lib.hid (rnext_calls HI.out HB.out t0 (by omega) (by omega))
      clear hp hL
      go_wp2_with (go_at_call 68; refine NX.out.mono ?_; rintro e w4 ⟨rfl, a4, o4⟩; have A4 := Lib.hid a4; have O5 := Lib.hid o4; clear a4 o4)
      go_roundw
      case rel =>
        have hbt := bt_bd HB.out
        refine ⟨k + 1, nextS t, by omega, by push_cast; rfl, ?_, HB, by show 0 ≤ t.co * 256 + _; omega, ?_, by show t.n + 1 = k + 1; omega, A4, B2.out.trans (O5.out.below (by have := B2.out.size; omega) (fun i hi => by omega))⟩
        · have e : 4 - k = (4 - (k + 1)) + 1 := by omega
          have := HN.out
          rw [e] at this
          exact this
        · have hL := HL.out
          show t.co * 256 + _ < (256 : Int) ^ (k + 1)
          rw [Int.pow_succ]; omega
      case measure => simp [intOf]; omega
    · obtain rfl : k = 4 := by omega
      have hN : t = openS bs := HN.out
      subst hN
      go_wp2
      go_ret
      exact ⟨w1.heap.size, _, rfl, hs1, O1.out, HI.out, B2.out⟩
attribute [local irreducible] takeS atS
set_option maxHeartbeats 2000000 in
set_option maxRecDepth 100000 in
theorem RSymbol_yes {w : World} {d m h cap : Nat} {s : DSt} {v : Value} {L : List Int} {f : Bool} (a : Is w d 69 .i64 s v) (ok : s.Ready) (hn : s.n ≤ 900000000000) (b : Mdl.IsR w m h cap L f) (good : Mdl.Good L)
    (n1 : d ≠ m) (n2 : d ≠ h) (n3 : v.ownBlock ≠ some m) (n4 : v.ownBlock ≠ some h) :
    Calls Try.prog 36 #[.pointer (some ⟨d, 0, none⟩), .pointer (some ⟨m, 0, none⟩)] w fun e w' => e = .returned (.int .i64 (symK s L)) ∧
      Is w' d 69 .i64 (symS s L) v ∧ Mdl.IsR w' m h cap (Mdl.next f L (symK s L)) f ∧ Only (fun i => i = d ∨ (i = m ∨ i = h)) w w' := by
  have A := Lib.hid a
  have B := Lib.hid b
  have G := Lib.hid good
  have OK := Lib.hid ok
  have N3 := Lib.hid n3
  have N4 := Lib.hid n4
  have lm := b.blk.lt
  have lh := b.row.lt
  have ld := a.blk.lt
  have hl64 := good.len2
  have hall := good.all
  have d0 := b.blk.cell (i := 0) rfl
  have hk0 := sym_lt (s := s) good
  have HK := Lib.hid (sym_lt (s := s) good)
  have MY := Lib.hid (Enc.may_of good _ (sym_lt (s := s) good))
  have LE := Lib.hid (sym_le ok good)
  have HS : Hid (symS s L = takeS s (Mdl.lsum (L.take (symK s L))) (L.getD (symK s L) 0) (Mdl.lsum L)) := Lib.hid rfl
  have HF : Hid (Mdl.find L (atS s (Mdl.lsum L)) = symK s L) := Lib.hid rfl
  have AB := Lib.hid (at_bd ok good.sum1 good.all)
  have C2 := Lib.hid (Mdl.RSum_calls b good.nonneg (by omega) L.length (Nat.le_refl _) hl64)
  rw [List.take_of_length_le (Nat.le_refl _)] at C2
  have al0 := Lib.hid good.sum1
  have al1 := Lib.hid good.all
  have CA := Lib.hid (rat_calls a ok (Mdl.lsum L) good.sum1 good.all)
  have dk := b.row.cell hk0
  have hg : L.getD (symK s L) 0 = L[symK s L] := Dig.getD_get L _ hk0
  rw [hg] at MY HS
  generalize L[symK s L]'hk0 = ow at *
  have FD := Lib.hid (fun n => Mdl.RFind_calls (b.drewN n) good (atS s (Mdl.lsum L)) AB.out.1 (by have := AB.out.2; omega))
  rw [HF.out] at FD
  obtain ⟨al, hal⟩ : ∃ al, Mdl.lsum L = al := ⟨_, rfl⟩
  rw [hal] at MY LE HS HF AB al0 al1 C2 hall CA FD
  clear hal
  obtain ⟨k, hk⟩ : ∃ k, symK s L = k := ⟨_, rfl⟩
  rw [hk] at HK MY LE HS HF hk0 dk FD ⊢
  clear hk hg
  obtain ⟨lo, hlo⟩ : ∃ x, Mdl.lsum (L.take k) = x := ⟨_, rfl⟩
  rw [hlo] at MY HS LE
  have HLo := Lib.hid hlo
  clear hlo a b good ok n3 n4
  obtain ⟨n, hn2⟩ : ∃ n, L.length = n := ⟨_, rfl⟩
  have HN := Lib.hid hn2
  rw [hn2] at d0 C2 HK hk0
  clear hn2
  have ik : (k : Int) < (n : Int) := by omega
  obtain ⟨x, hx⟩ : ∃ x, atS s al = x := ⟨_, rfl⟩
  rw [hx] at CA FD
  clear hx
  go_enter Try.func36, Try.ntmps36
  go_wp2_with fail
  refine C2.out.mono ?_
  rintro e1 w1 ⟨rfl, he⟩
  subst w1
  go_wp2_with fail
  refine CA.out.mono ?_
  rintro e2 w2 ⟨rfl, nd, rfl⟩
  go_wp2_with fail
  refine (FD.out nd).mono ?_
  rintro e3 w3 ⟨rfl, rfl⟩
  have A2 := Lib.hid (A.out.drewN nd)
  have B2 := Lib.hid (B.out.drewN nd)
  have O2 : Hid (Only (fun i => i = d ∨ (i = m ∨ i = h)) w (w.drewN nd)) := Lib.hid ((Only.refl _ w).drewN nd)
  have d0 : (w.drewN nd).cell? ⟨m, 0, none⟩ = _ := d0
  have dk : (w.drewN nd).cell? ⟨h, k, none⟩ = _ := dk
  clear C2 CA FD A B
  generalize w.drewN nd = w2 at *
  have C1 : Hid (∀ n, Calls Try.prog 63 #[.pointer (some ⟨m, 0, none⟩), .int .i64 k] (w2.drewN n) fun e w' => e = .returned (.int .i64 lo) ∧ w' = w2.drewN n) :=
    Lib.hid (fun n => by have := Mdl.RSum_calls (B2.out.drewN n) G.out.nonneg (by have := G.out.all; omega) k (by rw [HN.out]; omega) hl64; rwa [HLo.out] at this)
  go_wp2_with fail
  refine region_quiet_tail 12 (by kernel_rfl) (by kernel_rfl) ?_
  simp only [List.take_succ_cons, List.take_zero, List.drop_succ_cons, List.drop_zero]
  repeat (quiet_step ((go_at_call 63; first | (with_reducible exact Calls.quiet_of_same (C1.out _)))))
  refine wpQuiet_nil ?_
  rintro _ ⟨nq, rfl⟩
  have CT := Lib.hid (rtake_calls (A2.out.drewN nq) OK.out lo ow al MY.out LE.out hn)
  go_wp2_with fail
  refine CT.out.mono ?_
  rintro e4 w4 ⟨rfl, a4, o4⟩
  have A4 := Lib.hid a4
  have B4 : Hid (Mdl.IsR w4 m h cap L f) := Lib.hid ((B2.out.drewN nq).only o4 (fun hh => n1 hh.symm) (fun hh => n2 hh.symm))
  have O4 : Hid (Only (fun i => i = d ∨ (i = m ∨ i = h)) w w4) := Lib.hid ((O2.out.drewN nq).then o4 (fun i hi => .inl (.inl hi)))
  clear a4 o4 CT A2 B2 O2 C1 d0 dk
  have HK2 : Hid (k < L.length) := Lib.hid (by rw [HN.out]; exact hk0)
  go_wp2_with fail
  refine (Mdl.RLearn_any B4.out G.out k HK2.out).mono ?_
  rintro e5 w5 ⟨rfl, b5, o5⟩
  have A5 := Lib.hid (A4.out.only o5 (fun hh => by rcases hh with hh | hh; exact n1 hh; exact n2 hh) (fun g hg hh => by
    rcases hh with hh | hh
    · subst hh; exact N3.out hg
    · subst hh; exact N4.out hg))
  have B5 := Lib.hid b5
  have O5 : Hid (Only (fun i => i = d ∨ (i = m ∨ i = h)) w w5) := Lib.hid (O4.out.then o5 (fun i hi => .inl (.inr hi)))
  clear b5 o5
  go_wp2_with fail
  go_ret
  rw [HS.out]
  exact ⟨rfl, A5.out, B5.out, O5.out⟩
attribute [local irreducible] bitsD
set_option maxHeartbeats 2000000 in
set_option maxRecDepth 100000 in
theorem RBits_yes {w : World} {d : Nat} {s : DSt} {v : Value} (a : Is w d 69 .i64 s v) (ok : s.Ready) (hn : s.n ≤ 800000000000) (wide : Nat) (h2 : wide ≤ 24) :
    Calls Try.prog 38 #[.pointer (some ⟨d, 0, none⟩), .int .i64 wide] w fun en w' => en = .returned (.int .i64 (bitsD s 0 wide).1) ∧ Is w' d 69 .i64 (bitsD s 0 wide).2 v ∧ At d w w' := by
  have A := Lib.hid a
  have R0 := Lib.hid ok
  clear a ok
  go_enter Try.func38, Try.ntmps38
  go_wp2
  go_loopw [1, 5] (fun u nv wr => ∃ (j : Nat) (t : DSt) (n : Int), j ≤ 24 ∧ u = .int .i64 (j : Int) ∧ nv = .int .i64 n ∧ 0 ≤ n ∧ Hid ((n + 1) * 2 ^ j ≤ 16777216) ∧ Hid (bitsD t n j = bitsD s 0 wide) ∧ Hid t.Ready ∧ t.n + 4 * j ≤ 900000000000 ∧ Hid (Is wr d 69 .i64 t v) ∧ Hid (At d w wr)) (fun u _ _ => (intOf u).toNat)
  case atStart => exact ⟨wide, s, 0, h2, rfl, rfl, Int.le_refl _, Lib.hid (by have := pow24 h2; omega), rfl, R0, by omega, A, At.refl d w⟩
  case round =>
    clear A R0
    obtain ⟨j, t, n, hj, rfl, rfl, n0, HL, HN, R0, hkk, A, O⟩ := hrel
    have hd := A.out.blk.lt
    by_cases hz : 0 < j
    · obtain ⟨k, i, hk0, hk12, hji, hkm, hst⟩ := bits_more (n := n) R0.out hz hj
      have hp := pow12 hk12
      have HP := Lib.hid hp
      have hp8 : (2 : Int) ^ k ≤ 8192 := by omega
      have AR := Lib.hid (at_ready R0.out hp.1 hp8)
      have AM := Lib.hid (at_may R0.out hp.1 hp8)
      have AL := Lib.hid (at_le R0.out hp.1 hp8 (Int.le_refl _))
      have HSt := Lib.hid hst
      have ab := at_bd R0.out hp.1 hp8
      have hL : (n * 2 ^ k + atS t (2 ^ k) + 1) * 2 ^ i ≤ 16777216 ∧ n * 2 ^ k + atS t (2 ^ k) + 1 ≤ 16777216 := by
        have h1 := HL.out
        rw [hji, Nat.add_comm, Int.pow_add, ← Int.mul_assoc] at h1
        have hpi : (0 : Int) < 2 ^ i := Int.pow_pos (by omega)
        have h2 : (n + 1) * 2 ^ k = n * 2 ^ k + 2 ^ k := by rw [Int.add_mul, Int.one_mul]
        rw [h2] at h1
        have h3 : (n * 2 ^ k + atS t (2 ^ k) + 1) * 2 ^ i ≤ (n * 2 ^ k + 2 ^ k) * 2 ^ i := Int.mul_le_mul_of_nonneg_right (by omega) (by omega)
        have h4 : (n * 2 ^ k + atS t (2 ^ k) + 1) * 1 ≤ (n * 2 ^ k + atS t (2 ^ k) + 1) * 2 ^ i := Int.mul_le_mul_of_nonneg_left (by omega) (by have := Int.mul_nonneg n0 (show (0 : Int) ≤ 2 ^ k by omega); omega)
        omega
      have n1 : 0 ≤ n * 2 ^ k := Int.mul_nonneg n0 (by omega)
      have n2 : n * 2 ^ k < 16777216 := by omega
      have HLL := Lib.hid hL
      have HI : Hid (i < j ∧ i ≤ 24 ∧ t.n + 2 + 4 * i ≤ 900000000000) := Lib.hid (by omega)
      have hji2 : (j : Int) - (k : Int) = (i : Int) := by omega
      have PW := Lib.hid (fun wz : World => Enc.power_calls k (by omega) wz)
      have w1 : IntKind.i64.wrap (i : Int) = (i : Int) := wrapI64 (by omega) (by omega)
      clear hst hL HL
      obtain ⟨pk, hpk⟩ : ∃ pk : Int, (2 : Int) ^ k = pk := ⟨_, rfl⟩
      rw [hpk] at HP AR AM AL HSt ab n1 n2 HLL hp hp8 PW
      clear hpk
      obtain ⟨x, hx⟩ : ∃ x, atS t pk = x := ⟨_, rfl⟩
      have CA := Lib.hid (rat_calls A.out R0.out pk HP.out.1 (by have := HP.out.2; omega))
      rw [hx] at ab AR AM AL HSt HLL CA
      clear hx
      obtain ⟨y, hy⟩ : ∃ y, n * pk = y := ⟨_, rfl⟩
      rw [hy] at n1 n2 HSt HLL
      by_cases hc : 12 < j
      · obtain rfl : k = 12 := by omega
        have hc' : (12 : Int) < (j : Int) := by omega
        have hji2 : (j : Int) - 12 = (i : Int) := hji2
        clear hkm hji
        go_wp2_with fail
        refine (PW.out _).mono ?_
        rintro e1 w1 ⟨rfl, rfl⟩
        go_wp2_with fail
        refine CA.out.mono ?_
        rintro e2 w2 ⟨rfl, nq, rfl⟩
        have A1 := Lib.hid (A.out.drewN nq)
        have O1 := Lib.hid (O.out.drewN nq)
        have CT := Lib.hid (rtake_calls A1.out R0.out x 1 pk AM.out AL.out (by omega))
        clear A O CA
        go_wp2_with fail
        refine (PW.out _).mono ?_
        rintro e3 w3 ⟨rfl, rfl⟩
        go_wp2_with fail
        refine CT.out.mono ?_
        rintro e4 w4 ⟨rfl, a2, o2⟩
        have A2 := Lib.hid a2
        have O2 := Lib.hid (O1.out.trans o2)
        clear a2 o2 A1 O1 CT
        go_wp2_with fail
        refine (PW.out _).mono ?_
        rintro e5 w5 ⟨rfl, rfl⟩
        go_wp2_with fail
        go_roundw
        case rel => exact ⟨i, takeS t x 1 pk, y + x, HI.out.2.1, rfl, rfl, by omega, HLL.out.1, HSt.out.symm.trans HN.out, AR.out.1, by have := AR.out.2.2.2; have := HI.out.2.2; omega, A2, O2⟩
        case measure => simp [intOf]; exact HI.out.1
      · obtain rfl : k = j := by omega
        have hc' : ¬ (12 : Int) < (k : Int) := by omega
        clear hkm hji
        go_wp2_with fail
        refine (PW.out _).mono ?_
        rintro e1 w1 ⟨rfl, rfl⟩
        go_wp2_with fail
        refine CA.out.mono ?_
        rintro e2 w2 ⟨rfl, nq, rfl⟩
        have A1 := Lib.hid (A.out.drewN nq)
        have O1 := Lib.hid (O.out.drewN nq)
        have CT := Lib.hid (rtake_calls A1.out R0.out x 1 pk AM.out AL.out (by omega))
        clear A O CA
        go_wp2_with fail
        refine (PW.out _).mono ?_
        rintro e3 w3 ⟨rfl, rfl⟩
        go_wp2_with fail
        refine CT.out.mono ?_
        rintro e4 w4 ⟨rfl, a2, o2⟩
        have A2 := Lib.hid a2
        have O2 := Lib.hid (O1.out.trans o2)
        clear a2 o2 A1 O1 CT
        go_wp2_with fail
        refine (PW.out _).mono ?_
        rintro e5 w5 ⟨rfl, rfl⟩
        go_wp2_with fail
        go_roundw
        case rel => exact ⟨i, takeS t x 1 pk, y + x, HI.out.2.1, rfl, rfl, by omega, HLL.out.1, HSt.out.symm.trans HN.out, AR.out.1, by have := AR.out.2.2.2; have := HI.out.2.2; omega, A2, O2⟩
        case measure => simp [intOf]; exact HI.out.1
    · obtain rfl : j = 0 := by omega
      rw [bits_nought] at HN
      have HF := Lib.hid HN.out.symm
      clear HN
      go_wp2
      go_ret
      rw [HF.out]
      exact ⟨rfl, A.out, O.out⟩
end Go.Proofs.Ytlbjoflmfboeeaa.Deco

/-
  The walk of the document's Bytes; no condition but those told.
-/
set_option linter.unusedVariables false
set_option linter.unusedSimpArgs false
namespace Go.Proofs.Ytlbjoflmfboeeaa.Enc
open Go.RowKit Go.Proofs.Ytlbjoflmfboeeaa Go.Proofs.YtlbjoflmfboeeaaW.PrintWords Go.Proofs.Ytlbjoflmfboeeaa.Dig

/-- A slice of bytes of the call's own. -/
def BPost (l : List Int) (w : World) (en : Ending) (w' : World) : Prop := ∃ v', en = .returned v' ∧ Sl w' 5 .u8 v' l ∧ (∀ g, v'.ownBlock = some g → w.heap.size ≤ g) ∧ Below w.heap.size w w'
set_option maxHeartbeats 4000000 in
set_option maxRecDepth 100000 in
theorem RBytes_calls {w : World} {e g c : Nat} {R : RSt} (a : RIs w e R g c) (dig : ∀ x ∈ R.D, 0 ≤ x ∧ x ≤ 255) (small : R.D.length ≤ 900000000) :
    Calls Try.prog 31 #[.pointer (some ⟨e, 0, none⟩)] w (BPost (strip R.D) w) := by
  have d0 := a.blk.cell (i := 0) rfl
  have A := Lib.hid a
  have HD := Lib.hid dig
  have hle := a.blk.lt
  have hlg := a.row.lt
  clear a dig
  obtain ⟨len, hl⟩ : ∃ len, R.D.length = len := ⟨_, rfl⟩
  have HL := Lib.hid hl
  rw [hl] at d0 small
  clear hl
  go_enter Try.func31, Try.ntmps31
  go_wp2
  go_loopw [4, 5] (fun vl vi wr => ∃ (k n : Nat) (z : Int), k ≤ len ∧ n ≤ k ∧ vi = .int .i64 (k : Int) ∧ vl = .int .i64 z ∧ z + 1 = (n : Int) ∧ Hid (strip (R.D.take k) = R.D.take n) ∧ wr = w) (fun _ vi _ => len - (intOf vi).toNat)
  case atStart => exact ⟨0, 0, -1, by omega, by omega, rfl, rfl, rfl, rfl, rfl⟩
  case round =>
    obtain ⟨k, n, z, hk, hn, rfl, rfl, hz, HS, rfl⟩ := hrel
    by_cases hlt : k < len
    · have ck := A.out.row.cell (i := k) (by rw [HL.out]; omega)
      have HT := Lib.hid (strip_take R.D k (by rw [HL.out]; omega))
      have ib : (k : Int) < (len : Int) := by omega
      generalize R.D[k]'(by rw [HL.out]; omega) = y at *
      by_cases hy : y = 0
      · have z1 : (y == 0) = true := by rw [beq_iff_eq]; exact hy
        have z2 : (y != 0) = false := by rw [hy]; rfl
        have HT2 : Hid (strip (R.D.take (k + 1)) = R.D.take n) := Lib.hid (by rw [HT.out, if_pos hy]; exact HS.out)
        clear hy
        go_wp2
        go_roundw
        case rel => exact ⟨k + 1, n, z, by omega, by omega, by push_cast; rfl, rfl, hz, HT2, trivial⟩
        case measure => simp [intOf]; omega
      · have z1 : (y == 0) = false := by rw [beq_eq_false_iff_ne]; exact hy
        have z2 : (y != 0) = true := by rw [bne_iff_ne]; exact hy
        have HT2 : Hid (strip (R.D.take (k + 1)) = R.D.take (k + 1)) := Lib.hid (by rw [HT.out, if_neg hy])
        clear hy
        go_wp2
        go_roundw
        case rel => exact ⟨k + 1, k + 1, k, by omega, by omega, by push_cast; rfl, rfl, by push_cast; rfl, HT2, trivial⟩
        case measure => simp [intOf]; omega
    · obtain rfl : k = len := by omega
      have HF : Hid (strip R.D = R.D.take n) := Lib.hid (by have := HS.out; rw [List.take_of_length_le (by rw [HL.out]; omega)] at this; exact this)
      clear HS
      go_wp2
      obtain ⟨w, rfl⟩ : ∃ w : World, w = wr := ⟨_, rfl⟩
      go_loopw [3, 6] (fun vo vi wq => ∃ (i : Nat) (v : Value), i ≤ n ∧ vi = .int .i64 (i : Int) ∧ vo = v ∧ Hid (Sl wq 5 .u8 v (R.D.take i)) ∧ Hid (∀ b, v.ownBlock = some b → w.heap.size ≤ b) ∧ Hid (Below w.heap.size w wq)) (fun _ vi _ => n - (intOf vi).toNat)
      case atStart => exact ⟨0, _, by omega, rfl, rfl, Sl.nil _ _ _, fun b hb => (by cases hb), Below.refl _ _⟩
      case round =>
        obtain ⟨i, v, hi, rfl, rfl, HS, HB, HW⟩ := hrel
        by_cases hlt2 : i < n
        · have hwq := HW.out.size
          have x0 : wr.cell? ⟨e, 0, none⟩ = some (.slice (some ⟨g, 0, none⟩) k c) := (HW.out.cell (p := ⟨e, 0, none⟩) hle).trans d0
          have ci := (A.out.row.below HW.out hlg).cell (i := i) (by rw [HL.out]; omega)
          have hy := HD.out _ (List.getElem_mem (show i < R.D.length by rw [HL.out]; omega))
          have HTk := Lib.hid (List.take_succ_eq_append_getElem (show i < R.D.length by rw [HL.out]; omega))
          have hli : (R.D.take i).length = i := by rw [List.length_take, HL.out]; omega
          have HLi := Lib.hid hli
          have ib : (i : Int) < (k : Int) := by omega
          generalize R.D[i]'(by rw [HL.out]; omega) = y at *
          clear hli
          go_wp2_with (first
            | (at_builtin; refine wpList_push (.tmp 30) (.tmp 39) 35 5 .u8 0 1 rfl rfl Try.underlying35 info_u8 _ (R.D.take i) i y ⟨wr.heap.size, 0, none⟩ (wr.heap.size + 1) rfl rfl (HS.out.alloc _) HLi.out ?_ ?_ ?_ ?_ ?_
               · exact (Blk.new wr _ _).cell (i := 0) rfl
               · simp
               · omega
               · omega
               intro g2 cap2 w2 hp
               have HP := Lib.hid hp
               clear hp))
          go_roundw
          case rel =>
            have hl2 : (R.D.take i ++ [y]).length = i + 1 := by rw [List.length_append, HLi.out]; rfl
            have hs := Sl.row HP.out.row
            rw [hl2, ← HTk.out] at hs
            refine ⟨i + 1, _, by omega, by push_cast; rfl, rfl, hs, fun b hb => ?_, ((HW.out.alloc hwq _).trans (HP.out.only.below (B := w.heap.size) (by simp; omega) (fun q hq => HB.out q hq)))⟩
            have e : g2 = b := Option.some.inj hb
            rcases HP.out.at_ with h | h
            · exact HB.out b (by rw [← e]; exact h)
            · omega
          case measure => simp [intOf]; omega
        · obtain rfl : i = n := by omega
          have d5 : decide ((i : Int) ≤ z) = false := decide_eq_false (by omega)
          go_wp2
          go_ret
          exact ⟨_, rfl, by rw [HF.out]; exact HS.out, HB.out, HW.out⟩
end Go.Proofs.Ytlbjoflmfboeeaa.Enc

/-
  The program's encoder and the document's hold one number: their bytes are the same. Plain theorems; no condition but those told.
-/
set_option linter.unusedVariables false
namespace Go.Proofs.Ytlbjoflmfboeeaa.Enc
open Go.RowKit Go.Proofs.Ytlbjoflmfboeeaa Go.Proofs.Ytlbjoflmfboeeaa.Dig

/-- The bytes that may still rise. -/
def pend (s : St) : List Int := (if s.be = true then [s.fi] else []) ++ List.replicate (s.he - 1) 255
def pre (s : St) : List Int := s.out ++ pend s
theorem pend_len (s : St) : (pend s).length = s.he - 1 + (if s.be = true then 1 else 0) := by
  unfold pend; split <;> simp
  try omega
theorem vl_rep255 (n : Nat) : vl (List.replicate n 255) = 256 ^ n - 1 := by
  induction n with
  | zero => simp [vl]
  | succ n ih => rw [List.replicate_succ', vl_snoc, ih, Int.pow_succ]; omega
theorem vl_rep0 (n : Nat) : vl (List.replicate n 0) = 0 := by
  induction n with
  | zero => rfl
  | succ n ih => rw [List.replicate_succ', vl_snoc, ih]; rfl
theorem pend_dig (s : St) (h0 : 0 ≤ s.fi) (h1 : s.fi ≤ 255) : ∀ x ∈ pend s, 0 ≤ x ∧ x ≤ 255 := by
  intro x hx
  unfold pend at hx
  rcases List.mem_append.1 hx with hx | hx
  · split at hx
    · simp at hx; omega
    · cases hx
  · have := List.eq_of_mem_replicate hx; omega
theorem pre_len (s : St) (h : 1 ≤ s.he) : (pre s).length = s.k := by
  unfold pre St.k
  rw [List.length_append, pend_len]
  omega
structure Sane (s : St) : Prop where
  lo0 : 0 ≤ s.lo
  lo1 : s.lo < 8589934592
  he0 : 1 ≤ s.he
  fi0 : 0 ≤ s.fi
  fi1 : s.fi ≤ 255
  dig : ∀ x ∈ s.out, 0 ≤ x ∧ x ≤ 255
  /-- What is in the way of what goes over, takes it. -/
  room : vl (pend s) + over s < 256 ^ (pend s).length
theorem flush_vl (s : St) (h : Sane s) : vl (flush s) = vl (pre s) + over s := by
  have ho : over s = 0 ∨ over s = 1 := by have := h.lo0; have := h.lo1; unfold over; omega
  have hr := h.room
  rcases ho with ho | ho
  · unfold flush pre pend
    rw [ho]
    have e1 : (s.fi + 0) % 256 = s.fi := by have := h.fi0; have := h.fi1; omega
    rw [e1, show ((255 : Int) + 0) % 256 = 255 from by decide]
    split <;> simp
  · by_cases hb : s.be = true
    · unfold flush pre
      unfold pend at hr ⊢
      rw [ho] at hr ⊢
      rw [if_pos hb] at hr ⊢
      rw [if_pos hb]
      rw [vl_append, vl_one, vl_rep255, List.length_replicate, List.length_append, List.length_replicate, List.length_singleton, Nat.add_comm 1, Int.pow_succ] at hr
      have hp := pow_pos256 (s.he - 1)
      have hfi : s.fi + 1 ≤ 255 := by
        generalize (256 : Int) ^ (s.he - 1) = p at *
        by_cases hf : s.fi + 1 ≤ 255
        · exact hf
        · have : 255 * p ≤ s.fi * p := Int.mul_le_mul_of_nonneg_right (by omega) (by omega)
          omega
      rw [show (s.fi + 1) % 256 = s.fi + 1 from by have := h.fi0; omega, show ((255 : Int) + 1) % 256 = 0 from by decide, List.append_assoc, vl_append, vl_append, vl_append, vl_append, vl_one, vl_one, vl_rep0, vl_rep255]
      simp only [List.length_append, List.length_singleton, List.length_replicate]
      rw [Int.add_mul]
      omega
    · unfold pend at hr
      rw [if_neg hb, List.nil_append, vl_rep255, List.length_replicate, ho] at hr
      omega
theorem flush_dig (s : St) (h : Sane s) : ∀ x ∈ flush s, 0 ≤ x ∧ x ≤ 255 := by
  intro x hx
  unfold flush at hx
  rcases List.mem_append.1 hx with hx | hx
  · split at hx
    · rcases List.mem_append.1 hx with hx | hx
      · exact h.dig x hx
      · simp at hx; omega
    · exact h.dig x hx
  · have := List.eq_of_mem_replicate hx; omega
/-- The number that an encoder holds. -/
def Val (s : St) : Int := vl (pre s) * 4294967296 + s.lo
theorem pre_loud (s : St) (hc : s.lo < 4278190080 ∨ 4294967296 ≤ s.lo) : pre (shiftS s) = flush s ++ [s.lo / 16777216 % 256] := by
  unfold shiftS; rw [if_pos hc]
  unfold pre pend
  simp
theorem pend_loud (s : St) (hc : s.lo < 4278190080 ∨ 4294967296 ≤ s.lo) : pend (shiftS s) = [s.lo / 16777216 % 256] := by
  unfold shiftS; rw [if_pos hc]
  unfold pend
  simp
theorem pend_calm (s : St) (h : 1 ≤ s.he) (hc : ¬ (s.lo < 4278190080 ∨ 4294967296 ≤ s.lo)) : pend (shiftS s) = pend s ++ [255] := by
  unfold shiftS; rw [if_neg hc]
  unfold pend
  simp only [Nat.add_sub_cancel]
  rw [List.append_assoc]
  congr 1
  have : s.he = s.he - 1 + 1 := by omega
  rw [← List.replicate_succ', ← this]
theorem pre_calm (s : St) (h : 1 ≤ s.he) (hc : ¬ (s.lo < 4278190080 ∨ 4294967296 ≤ s.lo)) : pre (shiftS s) = pre s ++ [255] := by
  unfold pre
  rw [pend_calm s h hc, ← List.append_assoc]
  congr 2
  unfold shiftS; rw [if_neg hc]
theorem shift_lo (s : St) : (shiftS s).lo = s.lo % 16777216 * 256 := by unfold shiftS; split <;> rfl
theorem shift_val (s : St) (h : Sane s) : Val (shiftS s) = Val s * 256 := by
  unfold Val
  rw [shift_lo]
  by_cases hc : s.lo < 4278190080 ∨ 4294967296 ≤ s.lo
  · rw [pre_loud s hc, vl_snoc, flush_vl s h]
    unfold over
    have := h.lo0; have := h.lo1
    omega
  · rw [pre_calm s h.he0 hc, vl_snoc]
    have := h.lo0; have := h.lo1
    omega
theorem shift_out_dig (s : St) (h : Sane s) : ∀ x ∈ (shiftS s).out, 0 ≤ x ∧ x ≤ 255 := by
  unfold shiftS
  split
  · exact flush_dig s h
  · exact h.dig
/-- Behind a shift nothing goes over. -/
theorem shift_sane (s : St) (h : Sane s) : Sane (shiftS s) := by
  have hl := shiftS_lo s
  have hh := shiftS_he s h.he0
  have hf := shiftS_fi s h.fi0 (by have := h.fi1; omega)
  refine ⟨hl.1, by omega, hh, hf.1, by omega, shift_out_dig s h, ?_⟩
  have e : over (shiftS s) = 0 := by unfold over; omega
  rw [e, Int.add_zero]
  exact vl_lt _ (pend_dig _ hf.1 (by omega))
theorem shifts_val (n : Nat) : ∀ (s : St), Sane s → Val (shifts n s) = Val s * 256 ^ n ∧ Sane (shifts n s) ∧ (shifts n s).k = s.k + n := by
  induction n with
  | zero => intro s h; exact ⟨by simp [shifts], h, rfl⟩
  | succ n ih =>
    intro s h
    obtain ⟨h1, h2, h3⟩ := ih (shiftS s) (shift_sane s h)
    refine ⟨?_, h2, ?_⟩
    · show Val (shifts n (shiftS s)) = _
      rw [h1, shift_val s h, Int.pow_succ, Int.mul_assoc, Int.mul_comm 256]
    · show (shifts n (shiftS s)).k = _
      rw [h3, shift_k s h.he0]; omega
theorem shifts_succ (n : Nat) : ∀ (s : St), shifts (n + 1) s = shiftS (shifts n s) := by
  induction n with
  | zero => intro s; rfl
  | succ n ih => intro s; show shifts (n + 1) (shiftS s) = _; rw [ih]; rfl
theorem lo4 (s : St) (h : 0 ≤ s.lo) : (shifts 4 s).lo = 0 := by
  show (shiftS (shiftS (shiftS (shiftS s)))).lo = 0
  rw [shift_lo, shift_lo, shift_lo, shift_lo]
  omega
/-- All bytes, behind five shifts. -/
theorem out_five (s : St) (h : Sane s) : vl (shifts 5 s).out = Val s ∧ (shifts 5 s).out.length = s.k + 4 ∧ ∀ x ∈ (shifts 5 s).out, 0 ≤ x ∧ x ≤ 255 := by
  obtain ⟨h1, h2, h3⟩ := shifts_val 4 s h
  have hl := lo4 s h.lo0
  rw [shifts_succ 4 s]
  have e : (shiftS (shifts 4 s)).out = flush (shifts 4 s) := by unfold shiftS; rw [if_pos (.inl (by rw [hl]; decide))]
  rw [e]
  refine ⟨?_, by rw [flush_len _ h2.he0, h3], flush_dig _ h2⟩
  rw [flush_vl _ h2]
  unfold Val at h1
  unfold over
  rw [hl] at h1 ⊢
  rw [show (256 : Int) ^ 4 = 4294967296 from by decide] at h1
  have e2 : Val s = vl (pre s) * 4294967296 + s.lo := rfl
  rw [e2]
  omega
/-- One number. -/
structure Rel (s : St) (R : RSt) : Prop where
  k : s.k = R.K
  sz : s.sz = R.S
  val : Val s = vl R.D
  lo0 : 0 ≤ s.lo
  sum : s.lo + s.sz < 8589934592
  he0 : 1 ≤ s.he
  fi0 : 0 ≤ s.fi
  fi1 : s.fi ≤ 255
  dig : ∀ x ∈ s.out, 0 ≤ x ∧ x ≤ 255
  top : vl (pend s) * 4294967296 + s.lo + s.sz ≤ 256 ^ (pend s).length * 4294967296
theorem Rel.sane {s : St} {R : RSt} (h : Rel s R) (hs : 0 < s.sz) : Sane s := by
  refine ⟨h.lo0, by have := h.sum; omega, h.he0, h.fi0, h.fi1, h.dig, ?_⟩
  have ht := h.top
  have hv := vl_lt _ (pend_dig s h.fi0 h.fi1)
  unfold over
  have := h.lo0
  have := h.sum
  omega
theorem fresh_rel : Rel fresh rfresh := ⟨rfl, rfl, by decide, by decide, by decide, by decide, by decide, by decide, (fun x hx => by cases hx), by decide⟩
theorem step_rel {s : St} {R : RSt} (h : Rel s R) (hs : 0 < s.sz) (hc : s.sz < 16777216) : Rel (step1 s) (rstep R) := by
  have hsane := h.sane hs
  obtain ⟨s', hs'⟩ : ∃ s' : St, s' = ⟨s.lo, s.sz * 256, s.he, s.fi, s.out, s.be⟩ := ⟨_, rfl⟩
  have e1 : step1 s = shiftS s' := by rw [hs']; rfl
  have p1 : pend s' = pend s := by rw [hs']; rfl
  have p2 : pre s' = pre s := by rw [hs']; rfl
  have p3 : s'.lo = s.lo := by rw [hs']
  have p4 : over s' = over s := by rw [hs']; rfl
  have p5 : s'.sz = s.sz * 256 := by rw [hs']
  have p6 : s'.k = s.k := by rw [hs']; rfl
  have hsane' : Sane s' := by
    refine ⟨by rw [p3]; exact hsane.lo0, by rw [p3]; exact hsane.lo1, by rw [hs']; exact hsane.he0, by rw [hs']; exact hsane.fi0, by rw [hs']; exact hsane.fi1, by rw [hs']; exact hsane.dig, ?_⟩
    rw [p1, p4]; exact hsane.room
  have hv : Val s' = Val s := by unfold Val; rw [p2, p3]
  have sh := shift_sane s' hsane'
  have hl := shiftS_lo s'
  have hz := shiftS_sz s'
  rw [e1]
  refine ⟨?_, ?_, ?_, sh.lo0, by rw [hz, p5]; omega, sh.he0, sh.fi0, sh.fi1, sh.dig, ?_⟩
  · rw [shift_k s' hsane'.he0, p6, h.k]; rfl
  · rw [hz, p5, h.sz]; rfl
  · rw [shift_val s' hsane', hv, h.val]
    show _ = vl (R.D ++ [0])
    rw [vl_snoc]; omega
  · have ht := h.top
    have hlo := h.lo0
    have hsum := h.sum
    rw [hz, p5, shift_lo, p3]
    by_cases hcc : s'.lo < 4278190080 ∨ 4294967296 ≤ s'.lo
    · rw [pend_loud s' hcc, vl_one, p3]
      rw [p3] at hcc
      simp only [List.length_singleton]
      rw [show (256 : Int) ^ 1 = 256 from rfl]
      omega
    · rw [pend_calm s' hsane'.he0 hcc, vl_snoc, List.length_append, List.length_singleton, Int.pow_succ, p1]
      rw [p3] at hcc
      generalize (256 : Int) ^ (pend s).length = p at *
      omega
theorem norm_rel (n : Nat) : ∀ (s : St) (R : RSt), Rel s R → 0 < s.sz → Rel (norm n s) (rnorm n R) := by
  induction n with
  | zero => intro s R h hs; exact h
  | succ n ih =>
    intro s R h hs
    unfold norm rnorm
    rw [← h.sz]
    by_cases hc : s.sz < 16777216
    · rw [if_pos hc, if_pos hc]
      exact ih _ _ (step_rel h hs hc) (by show 0 < (shiftS _).sz; rw [shiftS_sz]; show 0 < s.sz * 256; omega)
    · rw [if_neg hc, if_neg hc]; exact h
theorem put_rel {s : St} {R : RSt} (h : Rel s R) (g : RGood R) {lo ow al : Int} (may : May lo ow al) : Rel (putS s lo ow al) (rputS R lo ow al) := by
  obtain ⟨p0, p1, p2, p3⟩ := may
  obtain ⟨each, hE⟩ : ∃ each, each = R.S / al := ⟨_, rfl⟩
  have s0 := g.s0
  have s1 := g.s1
  have b3 := each_lo al R.S (by omega) p3 s0
  have b1 := mul_bd each lo al R.S hE (by omega) p0 (by omega) (by omega)
  have b2 := mul_bd each ow al R.S hE (by omega) (by omega) (by omega) (by omega)
  have b6 := mul_bd each (lo + ow) al R.S hE (by omega) (by omega) (by omega) (by omega)
  rw [Int.mul_add] at b6
  have b4 : each * 1 ≤ each * ow := Int.mul_le_mul_of_nonneg_left p1 (by omega)
  rw [Int.mul_one] at b4
  have hv : vl (addF 4 R.D R.K (each * lo)) = vl R.D + each * lo := by
    have := addF_vl 4 (by omega) R.D R.K (each * lo) g.len b1.1 (by show each * lo < 4294967296; omega)
    simpa using this
  have hcv := carF_vl (R.K + 3) (addF 4 R.D R.K (each * lo)) R.K (by rw [addF_len, g.len]; omega)
  unfold putS rputS
  rw [h.sz]
  rw [← hE] at b3 ⊢
  have hsz := h.sz
  refine norm_rel 2 _ _ ⟨h.k, rfl, ?_, by have := h.lo0; simp only; omega, by have := h.sum; simp only; omega, h.he0, h.fi0, h.fi1, h.dig, ?_⟩ (by simp only; omega)
  · simp only
    rw [hcv, hv, ← h.val]
    show vl (pre s) * 4294967296 + (s.lo + each * lo) = vl (pre s) * 4294967296 + s.lo + each * lo
    omega
  · have ht := h.top
    show vl (pend s) * 4294967296 + (s.lo + each * lo) + each * ow ≤ 256 ^ (pend s).length * 4294967296
    omega
/-- The same bytes. -/
theorem bytes_rel {s : St} {R : RSt} (h : Rel s R) (g : RGood R) : bytesS s = strip R.D := by
  have hs : 0 < s.sz := by rw [h.sz]; have := g.s0; omega
  obtain ⟨h1, h2, h3⟩ := out_five s (h.sane hs)
  unfold bytesS
  rw [vl_inj _ R.D (by rw [h2, g.len, h.k]) h3 g.dig (by rw [h1, h.val])]
theorem Rel.ready {s : St} {R : RSt} (h : Rel s R) (g : RGood R) : s.Ready :=
  ⟨h.lo0, h.sum, by rw [h.sz]; exact g.s0, by rw [h.sz]; exact g.s1, h.he0, h.fi0, by have := h.fi1; omega⟩
end Go.Proofs.Ytlbjoflmfboeeaa.Enc

/-
  Symbols and bits keep what was told of the two encoders. Plain theorems; no condition but those told.
-/
set_option linter.unusedVariables false
namespace Go.Proofs.Ytlbjoflmfboeeaa.Enc
open Go.RowKit Go.Proofs.Ytlbjoflmfboeeaa Go.Proofs.Ytlbjoflmfboeeaa.Dig

theorem fresh_rdy : fresh.Ready := fresh_rel.ready rfresh_good
theorem may_bits (n : Int) {j : Nat} (h : j ≤ 12) : May (n % 2 ^ j) 1 (2 ^ j) := by
  have h3 : (0 : Int) < 2 ^ j := Int.pow_pos (by omega)
  have h4 := Nat.pow_le_pow_right (show 0 < 2 by decide) h
  have h5 : (2 : Int) ^ j ≤ 2 ^ 12 := by exact_mod_cast h4
  have e12 : (2 : Int) ^ 12 = 4096 := by decide
  have := Int.emod_nonneg n (show (2 : Int) ^ j ≠ 0 by omega)
  have := Int.emod_lt_of_pos n h3
  exact ⟨by omega, by omega, by omega, by omega⟩
theorem may_bits12 (n : Int) : May (n % 4096) 1 4096 := by refine ⟨?_, ?_, ?_, ?_⟩ <;> omega
theorem bitsS_ready {s : St} (ok : s.Ready) (n : Int) (w : Nat) (hw : w ≤ 24) : (bitsS s n w).Ready ∧ s.k ≤ (bitsS s n w).k ∧ (bitsS s n w).k ≤ s.k + 4 := by
  unfold bitsS
  split
  · exact ⟨ok, Nat.le_refl _, Nat.le_add_right _ _⟩
  · split
    · rename_i h0 h1
      obtain ⟨r1, r2, r3⟩ := put_ready ok (may_bits n h1)
      exact ⟨r1, r2, Nat.le_trans r3 (by omega)⟩
    · rename_i h0 h1
      obtain ⟨r1, r2, r3⟩ := put_ready ok (may_bits12 (n / 2 ^ (w - 12)))
      obtain ⟨q1, q2, q3⟩ := put_ready r1 (may_bits n (show w - 12 ≤ 12 by omega))
      exact ⟨q1, Nat.le_trans r2 q2, Nat.le_trans q3 (by omega)⟩
theorem rbitsS_good {R : RSt} (ok : RGood R) (n : Int) (w : Nat) (hw : w ≤ 24) : RGood (rbitsS R n w) ∧ R.K ≤ (rbitsS R n w).K ∧ (rbitsS R n w).K ≤ R.K + 4 := by
  unfold rbitsS
  split
  · exact ⟨ok, Nat.le_refl _, Nat.le_add_right _ _⟩
  · split
    · rename_i h0 h1
      obtain ⟨r1, r2, r3⟩ := rput_good ok (may_bits n h1)
      exact ⟨r1, r2, Nat.le_trans r3 (by omega)⟩
    · rename_i h0 h1
      obtain ⟨r1, r2, r3⟩ := rput_good ok (may_bits12 (n / 2 ^ (w - 12)))
      obtain ⟨q1, q2, q3⟩ := rput_good r1 (may_bits n (show w - 12 ≤ 12 by omega))
      exact ⟨q1, Nat.le_trans r2 q2, Nat.le_trans q3 (by omega)⟩
theorem bitsS_rel {s : St} {R : RSt} (h : Rel s R) (g : RGood R) (n : Int) (w : Nat) (hw : w ≤ 24) : Rel (bitsS s n w) (rbitsS R n w) := by
  unfold bitsS rbitsS
  split
  · exact h
  · split
    · rename_i h0 h1
      exact put_rel h g (may_bits n h1)
    · rename_i h0 h1
      exact put_rel (put_rel h g (may_bits12 (n / 2 ^ (w - 12)))) (rput_good g (may_bits12 (n / 2 ^ (w - 12)))).1 (may_bits n (show w - 12 ≤ 12 by omega))
theorem symS_ready {s : St} (ok : s.Ready) {L : List Int} (good : Mdl.Good L) {k : Nat} (hk : k < L.length) : (symS s L k).Ready ∧ s.k ≤ (symS s L k).k ∧ (symS s L k).k ≤ s.k + 2 := put_ready ok (may_of good k hk)
theorem rsymS_good {R : RSt} (ok : RGood R) {L : List Int} (good : Mdl.Good L) {k : Nat} (hk : k < L.length) : RGood (rsymS R L k) ∧ R.K ≤ (rsymS R L k).K ∧ (rsymS R L k).K ≤ R.K + 2 := rput_good ok (may_of good k hk)
theorem symS_rel {s : St} {R : RSt} (h : Rel s R) (g : RGood R) {L : List Int} (good : Mdl.Good L) {k : Nat} (hk : k < L.length) : Rel (symS s L k) (rsymS R L k) := put_rel h g (may_of good k hk)
theorem strip_sub (l : List Int) : (∀ x ∈ strip l, x ∈ l) ∧ (strip l).length ≤ l.length := by
  unfold strip
  have h : l.reverse.dropWhile (fun x => x == 0) <:+ l.reverse := List.dropWhile_suffix _
  refine ⟨fun x hx => ?_, ?_⟩
  · rw [List.mem_reverse] at hx
    have := h.subset hx
    rwa [List.mem_reverse] at this
  · rw [List.length_reverse]
    have := h.length_le
    rwa [List.length_reverse] at this
theorem strip_pre (l : List Int) : ∃ n, l = strip l ++ List.replicate n 0 := by
  unfold strip
  refine ⟨(l.reverse.takeWhile (fun x => x == 0)).length, ?_⟩
  have h := List.takeWhile_append_dropWhile (p := fun x : Int => x == 0) (l := l.reverse)
  have h2 := congrArg List.reverse h
  rw [List.reverse_append, List.reverse_reverse] at h2
  have h3 : (l.reverse.takeWhile (fun x => x == 0)).reverse = List.replicate (l.reverse.takeWhile (fun x => x == 0)).length 0 := by
    rw [List.eq_replicate_iff]
    refine ⟨by simp, fun x hx => ?_⟩
    rw [List.mem_reverse] at hx
    have key : ∀ (l : List Int), x ∈ l.takeWhile (fun x => x == 0) → x = 0 := by
      intro l
      induction l with
      | nil => intro h; cases h
      | cons a l ih =>
        intro h
        rw [List.takeWhile_cons] at h
        by_cases ha : a = 0
        · subst ha
          rcases List.mem_cons.1 (by simpa using h) with h | h
          · exact h
          · exact ih h
        · simp [ha] at h
    exact key _ hx
  rw [h3] at h2
  exact h2.symm
/-- The bytes are bytes, and not many. -/
theorem bytes_byt {s : St} {R : RSt} (h : Rel s R) (g : RGood R) : (∀ x ∈ bytesS s, 0 ≤ x ∧ x ≤ 255) ∧ (bytesS s).length ≤ s.k + 4 := by
  rw [bytes_rel h g]
  have h2 := strip_sub R.D
  refine ⟨fun x hx => g.dig x (h2.1 x hx), ?_⟩
  have := h2.2
  rw [g.len] at this
  rw [h.k]; exact this
end Go.Proofs.Ytlbjoflmfboeeaa.Enc
