/-
  Digits to the base 256: sums, and what goes over. Plain theorems; no condition but those told.
-/
import Derived.RowKit
set_option linter.unusedVariables false
namespace Go.Proofs.Ytlbjoflmfboeeaa.Dig

/-- The number that digits are. -/
def vl (D : List Int) : Int := D.foldl (fun a x => a * 256 + x) 0
theorem foldl_vl (a : Int) (D : List Int) : D.foldl (fun a x => a * 256 + x) a = a * 256 ^ D.length + vl D := by
  induction D generalizing a with
  | nil => simp [vl]
  | cons x l ih =>
    have h1 := ih (a * 256 + x)
    have h2 := ih (0 * 256 + x)
    unfold vl
    simp only [List.foldl_cons, List.length_cons]
    rw [h1, h2, Int.pow_succ, Int.add_mul, Int.mul_assoc]
    simp only [Int.zero_mul, Int.zero_add]
    rw [Int.mul_comm 256]
    omega
theorem vl_append (A B : List Int) : vl (A ++ B) = vl A * 256 ^ B.length + vl B := by
  unfold vl
  rw [List.foldl_append, foldl_vl]; rfl
theorem vl_nil : vl [] = 0 := rfl
theorem vl_one (x : Int) : vl [x] = x := by simp [vl]
theorem vl_cons (x : Int) (l : List Int) : vl (x :: l) = x * 256 ^ l.length + vl l := by
  have := vl_append [x] l
  rw [vl_one] at this
  exact this
theorem vl_snoc (l : List Int) (x : Int) : vl (l ++ [x]) = vl l * 256 + x := by
  rw [vl_append, vl_one]; simp
theorem pow_pos256 (n : Nat) : (0 : Int) < 256 ^ n := Int.pow_pos (by omega)
theorem vl_nonneg (D : List Int) (h : ∀ x ∈ D, 0 ≤ x) : 0 ≤ vl D := by
  induction D with
  | nil => exact Int.le_refl 0
  | cons x l ih =>
    rw [vl_cons]
    have h1 := ih fun y hy => h y (List.mem_cons_of_mem _ hy)
    have h2 := h x (List.mem_cons_self ..)
    have h3 := Int.mul_nonneg h2 (Int.le_of_lt (pow_pos256 l.length))
    omega
theorem vl_lt (D : List Int) (h : ∀ x ∈ D, 0 ≤ x ∧ x ≤ 255) : vl D < 256 ^ D.length := by
  induction D with
  | nil => simp [vl]
  | cons x l ih =>
    rw [vl_cons]
    have h1 := ih fun y hy => h y (List.mem_cons_of_mem _ hy)
    have h2 := h x (List.mem_cons_self ..)
    have h3 : x * 256 ^ l.length ≤ 255 * 256 ^ l.length := Int.mul_le_mul_of_nonneg_right h2.2 (Int.le_of_lt (pow_pos256 _))
    rw [List.length_cons, Int.pow_succ]
    omega
/-- Digits are told by the number. -/
theorem vl_inj (A B : List Int) (hl : A.length = B.length) (ha : ∀ x ∈ A, 0 ≤ x ∧ x ≤ 255) (hb : ∀ x ∈ B, 0 ≤ x ∧ x ≤ 255) (h : vl A = vl B) : A = B := by
  induction A generalizing B with
  | nil => cases B with
    | nil => rfl
    | cons y m => simp at hl
  | cons x l ih =>
    cases B with
    | nil => simp at hl
    | cons y m =>
      have hlm : l.length = m.length := by simpa using hl
      rw [vl_cons, vl_cons, hlm] at h
      have h1 := vl_lt l fun z hz => ha z (List.mem_cons_of_mem _ hz)
      have h2 := vl_lt m fun z hz => hb z (List.mem_cons_of_mem _ hz)
      have h3 := vl_nonneg l fun z hz => (ha z (List.mem_cons_of_mem _ hz)).1
      have h4 := vl_nonneg m fun z hz => (hb z (List.mem_cons_of_mem _ hz)).1
      rw [hlm] at h1
      have hp := pow_pos256 m.length
      generalize (256 : Int) ^ m.length = p at *
      have hxy : x = y := by
        rcases Int.lt_trichotomy x y with hlt | heq | hgt
        · have : (x + 1) * p ≤ y * p := Int.mul_le_mul_of_nonneg_right (by omega) (by omega)
          rw [Int.add_mul] at this; omega
        · exact heq
        · have : (y + 1) * p ≤ x * p := Int.mul_le_mul_of_nonneg_right (by omega) (by omega)
          rw [Int.add_mul] at this; omega
      subst hxy
      rw [ih m hlm (fun z hz => ha z (List.mem_cons_of_mem _ hz)) (fun z hz => hb z (List.mem_cons_of_mem _ hz)) (by omega)]
theorem vl_set (D : List Int) (i : Nat) (hi : i < D.length) (x : Int) : vl (D.set i x) = vl D + (x - D[i]) * 256 ^ (D.length - 1 - i) := by
  induction D generalizing i with
  | nil => simp at hi
  | cons y l ih =>
    cases i with
    | zero =>
      simp only [List.set_cons_zero, List.getElem_cons_zero, List.length_cons, Nat.add_sub_cancel, Nat.sub_zero]
      rw [vl_cons, vl_cons, Int.sub_mul]
      omega
    | succ i =>
      simp only [List.set_cons_succ, List.getElem_cons_succ, List.length_cons, Nat.add_sub_cancel]
      have := ih i (by simpa using hi)
      rw [vl_cons, vl_cons, this, List.length_set, show l.length - (i + 1) = l.length - 1 - i from by omega]
      omega
/-- A number is added to the last digits, none is carried. -/
def addF : Nat → List Int → Nat → Int → List Int
  | 0, D, _, _ => D
  | n + 1, D, K, a => addF n (D.set (K + n) (D.getD (K + n) 0 + a % 256)) K (a / 256)
/-- What is above 255 goes over, from place n down. -/
def carF : Nat → List Int → Nat → List Int
  | 0, D, _ => D
  | i + 1, D, K => if K ≤ i + 1 ∨ 255 < D.getD (i + 1) 0 then carF i (if 255 < D.getD (i + 1) 0 then (D.set (i + 1) (D.getD (i + 1) 0 - 256)).set i (D.getD i 0 + 1) else D) K else D
theorem getD_get (D : List Int) (i : Nat) (h : i < D.length) : D.getD i 0 = D[i] := by rw [List.getD_eq_getElem?_getD, List.getElem?_eq_getElem h]; rfl
theorem vl_put (D : List Int) (i : Nat) (hi : i < D.length) (x : Int) (e : Nat) (he : D.length - 1 - i = e) : vl (D.set i x) = vl D + (x - D.getD i 0) * 256 ^ e := by
  subst he
  rw [vl_set D i hi, getD_get D i hi]
theorem getD_put (D : List Int) (i j : Nat) (h : j ≠ i) (x : Int) : (D.set j x).getD i 0 = D.getD i 0 := by
  rw [List.getD_eq_getElem?_getD, List.getD_eq_getElem?_getD, List.getElem?_set_ne h]
theorem addF_len (n : Nat) : ∀ (D : List Int) (K : Nat) (a : Int), (addF n D K a).length = D.length := by
  induction n with
  | zero => intro D K a; rfl
  | succ n ih => intro D K a; unfold addF; rw [ih]; simp
theorem carF_len (n : Nat) : ∀ (D : List Int) (K : Nat), (carF n D K).length = D.length := by
  induction n with
  | zero => intro D K; rfl
  | succ n ih => intro D K; unfold carF; split <;> (try split) <;> simp [ih]
theorem addF_vl (n : Nat) (hn : n ≤ 4) : ∀ (D : List Int) (K : Nat) (a : Int), D.length = K + 4 → 0 ≤ a → a < 256 ^ n → vl (addF n D K a) = vl D + a * 256 ^ (4 - n) := by
  induction n with
  | zero =>
    intro D K a hl h0 h1
    have : a = 0 := by simp at h1; omega
    subst this
    simp [addF]
  | succ n ih =>
    intro D K a hl h0 h1
    unfold addF
    rw [ih (by omega) _ _ _ (by simpa using hl) (by omega) (by rw [Int.pow_succ] at h1; exact Int.ediv_lt_of_lt_mul (by omega) h1), vl_put D (K + n) (by omega) _ (4 - (n + 1)) (by omega), show 4 - n = 4 - (n + 1) + 1 from by omega, Int.pow_succ]
    have e : a = a % 256 + a / 256 * 256 := by omega
    generalize (256 : Int) ^ (4 - (n + 1)) = p
    have h5 : a * p = (a % 256 + a / 256 * 256) * p := by rw [← e]
    rw [h5, Int.add_mul, show D.getD (K + n) 0 + a % 256 - D.getD (K + n) 0 = a % 256 from by omega, Int.mul_assoc, Int.mul_comm 256 p]
    omega
theorem carF_vl (n : Nat) : ∀ (D : List Int) (K : Nat), n < D.length → vl (carF n D K) = vl D := by
  induction n with
  | zero => intro D K h; rfl
  | succ i ih =>
    intro D K h
    unfold carF
    by_cases hc : K ≤ i + 1 ∨ 255 < D.getD (i + 1) 0
    · rw [if_pos hc]
      by_cases h2 : 255 < D.getD (i + 1) 0
      · rw [if_pos h2, ih _ _ (by simp; omega), vl_put _ i (by simp; omega) _ (D.length - 1 - (i + 1) + 1) (by simp; omega), vl_put D (i + 1) h _ (D.length - 1 - (i + 1)) rfl, getD_put D i (i + 1) (by omega), Int.pow_succ]
        generalize (256 : Int) ^ (D.length - 1 - (i + 1)) = p
        rw [show D.getD (i + 1) 0 - 256 - D.getD (i + 1) 0 = -256 from by omega, show D.getD i 0 + 1 - D.getD i 0 = 1 from by omega]
        omega
      · rw [if_neg h2, ih _ _ (by omega)]
    · rw [if_neg hc]
/-- What holds of digits while they are carried: from i down. -/
structure Mid (D : List Int) (K i : Nat) : Prop where
  low : ∀ x ∈ D, 0 ≤ x
  hi : ∀ j (h : j < D.length), i < j → D[j] ≤ 255
  at_ : ∀ (h : i < D.length), D[i] ≤ 511
  lt : ∀ j (h : j < D.length), j < i → D[j] ≤ 510
  far : ∀ j (h : j < D.length), j < i → j < K → D[j] ≤ 255
theorem Mid.step {D : List Int} {K i : Nat} (h : Mid D K (i + 1)) (hl : i + 1 < D.length) (h2 : 255 < D.getD (i + 1) 0) : Mid ((D.set (i + 1) (D.getD (i + 1) 0 - 256)).set i (D.getD i 0 + 1)) K i := by
  rw [getD_get _ _ hl] at h2 ⊢
  rw [getD_get _ _ (show i < D.length by omega)]
  have h511 := h.at_ hl
  have hi510 := h.lt i (by omega) (by omega)
  have hi0 := h.low _ (List.getElem_mem (show i < D.length by omega))
  refine ⟨fun x hx => ?_, fun j hj hij => ?_, fun hj => ?_, fun j hj hij => ?_, fun j hj hij hK => ?_⟩
  · rcases List.mem_or_eq_of_mem_set hx with hx | hx
    · rcases List.mem_or_eq_of_mem_set hx with hx | hx
      · exact h.low x hx
      · omega
    · omega
  · simp at hj
    rw [List.getElem_set_ne (by omega)]
    by_cases hji : j = i + 1
    · subst hji; rw [List.getElem_set_self]; omega
    · rw [List.getElem_set_ne (by omega)]
      exact h.hi j hj (by omega)
  · rw [List.getElem_set_self]; omega
  · simp at hj
    rw [List.getElem_set_ne (by omega), List.getElem_set_ne (by omega)]
    exact h.lt j hj (by omega)
  · simp at hj
    rw [List.getElem_set_ne (by omega), List.getElem_set_ne (by omega)]
    exact h.far j hj (by omega) hK
theorem Mid.skip {D : List Int} {K i : Nat} (h : Mid D K (i + 1)) (hl : i + 1 < D.length) (h2 : ¬ 255 < D.getD (i + 1) 0) : Mid D K i := by
  rw [getD_get _ _ hl] at h2
  refine ⟨h.low, fun j hj hij => ?_, fun hj => ?_, fun j hj hij => h.lt j hj (by omega), fun j hj hij hK => h.far j hj (by omega) hK⟩
  · by_cases hji : j = i + 1
    · subst hji; omega
    · exact h.hi j hj (by omega)
  · have := h.lt i hj (by omega); omega
theorem carF_ok (i : Nat) : ∀ (D : List Int) (K : Nat), Mid D K i → i < D.length → vl D < 256 ^ D.length → ∀ x ∈ carF i D K, 0 ≤ x ∧ x ≤ 255 := by
  induction i with
  | zero =>
    intro D K h hl hv x hx
    have hx' : x ∈ D := hx
    refine ⟨h.low x hx', ?_⟩
    obtain ⟨j, hj, rfl⟩ := List.getElem_of_mem hx'
    by_cases h0 : 0 < j
    · exact h.hi j hj h0
    · obtain rfl : j = 0 := by omega
      cases D with
      | nil => simp at hl
      | cons y l =>
        rw [vl_cons, List.length_cons, Int.pow_succ] at hv
        have hn := vl_nonneg l fun z hz => h.low z (List.mem_cons_of_mem _ hz)
        simp only [List.getElem_cons_zero]
        have hp := pow_pos256 l.length
        generalize (256 : Int) ^ l.length = p at *
        by_cases hy : y ≤ 255
        · exact hy
        · have : 256 * p ≤ y * p := Int.mul_le_mul_of_nonneg_right (by omega) (by omega)
          omega
  | succ i ih =>
    intro D K h hl hv
    unfold carF
    by_cases hc : K ≤ i + 1 ∨ 255 < D.getD (i + 1) 0
    · rw [if_pos hc]
      by_cases h2 : 255 < D.getD (i + 1) 0
      · rw [if_pos h2]
        have hvv : vl ((D.set (i + 1) (D.getD (i + 1) 0 - 256)).set i (D.getD i 0 + 1)) = vl D := by
          have := carF_vl (i + 1) D (i + 1) hl
          unfold carF at this
          rw [if_pos (.inl (Nat.le_refl _)), if_pos h2, carF_vl i _ _ (by simp; omega)] at this
          exact this
        exact ih _ K (h.step hl h2) (by simp; omega) (by rw [hvv]; simpa using hv)
      · rw [if_neg h2]
        exact ih D K (h.skip hl h2) (by omega) hv
    · rw [if_neg hc]
      intro x hx
      refine ⟨h.low x hx, ?_⟩
      obtain ⟨j, hj, rfl⟩ := List.getElem_of_mem hx
      rcases Nat.lt_trichotomy j (i + 1) with h1 | h1 | h1
      · exact h.far j hj h1 (by omega)
      · subst h1
        rw [getD_get _ _ hl] at hc
        omega
      · exact h.hi j hj h1
/-- The last n digits behind K may have grown. -/
structure Adds (D : List Int) (K n : Nat) : Prop where
  low : ∀ x ∈ D, 0 ≤ x
  far : ∀ j (h : j < D.length), j < K + n → D[j] ≤ 255
  top : ∀ x ∈ D, x ≤ 510
theorem Adds.step {D : List Int} {K n : Nat} (h : Adds D K (n + 1)) (hl : K + n < D.length) (a : Int) : Adds (D.set (K + n) (D.getD (K + n) 0 + a % 256)) K n := by
  rw [getD_get _ _ hl]
  have h0 := h.low _ (List.getElem_mem hl)
  have h1 := h.far (K + n) hl (by omega)
  refine ⟨fun x hx => ?_, fun j hj hjn => ?_, fun x hx => ?_⟩
  · rcases List.mem_or_eq_of_mem_set hx with hx | hx
    · exact h.low x hx
    · omega
  · simp at hj
    rw [List.getElem_set_ne (by omega)]
    exact h.far j hj (by omega)
  · rcases List.mem_or_eq_of_mem_set hx with hx | hx
    · exact h.top x hx
    · omega
theorem addF_ok (n : Nat) (hn : n ≤ 4) : ∀ (D : List Int) (K : Nat) (a : Int), D.length = K + 4 → Adds D K n → Adds (addF n D K a) K 0 := by
  induction n with
  | zero => intro D K a hl h; exact h
  | succ n ih =>
    intro D K a hl h
    unfold addF
    exact ih (by omega) _ _ _ (by simpa using hl) (h.step (by omega) a)
theorem Adds.mid {D : List Int} {K : Nat} (h : Adds D K 0) (hl : D.length = K + 4) : Mid D K (K + 3) :=
  ⟨h.low, fun j hj hij => by omega, fun hj => by have := h.top _ (List.getElem_mem hj); omega, fun j hj _ => h.top _ (List.getElem_mem hj), fun j hj _ hK => h.far j hj (by omega)⟩
end Go.Proofs.Ytlbjoflmfboeeaa.Dig
