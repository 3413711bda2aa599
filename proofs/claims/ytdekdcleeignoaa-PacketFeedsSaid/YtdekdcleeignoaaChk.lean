/-
  Plain laws of the check sum: one step on thirty-two bits, half bytes and bytes, a row of bits; what a burst leaves. No program in sight; no condition.
-/
namespace Go.Proofs.Ytdekdcleeignoaa.Chk
abbrev W := BitVec 32
def P : W := 2197175160#32
/-- One bit's step. -/
def T (x : W) : W := (x >>> 1) ^^^ (if x.getLsbD 0 then P else 0#32)
def Tn : Nat → W → W
  | 0, x => x
  | n + 1, x => Tn n (T x)
theorem lsb_xor (a b : W) : (if (a ^^^ b).getLsbD 0 then P else 0#32) = (if a.getLsbD 0 then P else 0#32) ^^^ (if b.getLsbD 0 then P else 0#32) := by
  rw [BitVec.getLsbD_xor]
  cases a.getLsbD 0 <;> cases b.getLsbD 0 <;> simp
theorem T_xor (a b : W) : T (a ^^^ b) = T a ^^^ T b := by
  unfold T
  rw [BitVec.ushiftRight_xor_distrib, lsb_xor]
  ac_rfl
theorem Tn_xor (n : Nat) : ∀ a b : W, Tn n (a ^^^ b) = Tn n a ^^^ Tn n b := by
  induction n with
  | zero => intro a b; rfl
  | succ n ih => intro a b; show Tn n (T (a ^^^ b)) = _; rw [T_xor, ih]; rfl
theorem Tn_add (m n : Nat) : ∀ x : W, Tn (m + n) x = Tn n (Tn m x) := by
  induction m with
  | zero => intro x; rw [Nat.zero_add]; rfl
  | succ m ih => intro x; rw [show m + 1 + n = (m + n) + 1 from by omega]; show Tn (m + n) (T x) = Tn n (Tn m (T x)); exact ih (T x)
theorem T_inj {x : W} (h : T x = 0#32) : x = 0#32 := by
  unfold T at h
  apply BitVec.eq_of_getLsbD_eq
  intro i hi
  have hb := fun j => congrArg (fun y : W => y.getLsbD j) h
  simp only [BitVec.getLsbD_xor, BitVec.getLsbD_ushiftRight] at hb
  have h31 := hb 31
  have hl : x.getLsbD 0 = false := by
    by_cases h0 : x.getLsbD 0 = true
    · rw [if_pos h0] at h31
      have e : x.getLsbD (1 + 31) = false := BitVec.getLsbD_of_ge _ _ (by omega)
      rw [e] at h31
      exact absurd h31 (by decide)
    · simpa using h0
  by_cases hi0 : i = 0
  · subst hi0; rw [hl]; simp
  · have := hb (i - 1)
    rw [hl, show 1 + (i - 1) = i from by omega] at this
    simpa using this
theorem Tn_inj (n : Nat) : ∀ {x : W}, Tn n x = 0#32 → x = 0#32 := by
  induction n with
  | zero => intro x h; exact h
  | succ n ih => intro x h; exact T_inj (ih h)
theorem Tn_zero (n : Nat) : Tn n 0#32 = 0#32 := by
  induction n with
  | zero => rfl
  | succ n ih => show Tn n (T 0#32) = _; rw [show T 0#32 = 0#32 from by decide]; exact ih
/-- A bit as thirty-two. -/
def b01 (b : Bool) : W := if b then 1#32 else 0#32
/-- A row of bits. -/
def B (c : W) (l : List Bool) : W := l.foldl (fun c b => T (c ^^^ b01 b)) c
theorem B_nil (c : W) : B c [] = c := rfl
theorem B_cons (c : W) (b : Bool) (l : List Bool) : B c (b :: l) = B (T (c ^^^ b01 b)) l := rfl
theorem B_append (c : W) (l m : List Bool) : B c (l ++ m) = B (B c l) m := by unfold B; rw [List.foldl_append]
/-- The number of some bits, the least first. -/
def val : List Bool → Nat
  | [] => 0
  | b :: l => (if b then 1 else 0) + 2 * val l
theorem val_lt (l : List Bool) : val l < 2 ^ l.length := by
  induction l with
  | nil => simp [val]
  | cons b l ih =>
    simp only [val, List.length_cons, Nat.pow_succ]
    cases b <;> simp <;> omega
theorem T_twice (v : Nat) (h : v < 2 ^ 31) : T (BitVec.ofNat 32 (2 * v)) = BitVec.ofNat 32 v := by
  unfold T
  have h0 : (BitVec.ofNat 32 (2 * v)).getLsbD 0 = false := by
    rw [BitVec.getLsbD_ofNat]; simp
  rw [h0]
  simp
  apply BitVec.eq_of_toNat_eq
  rw [BitVec.toNat_ushiftRight, BitVec.toNat_ofNat, BitVec.toNat_ofNat, Nat.shiftRight_eq_div_pow]
  omega
theorem cons_val (b : Bool) (v : Nat) (h : v < 2 ^ 31) : BitVec.ofNat 32 ((if b then 1 else 0) + 2 * v) = b01 b ^^^ BitVec.ofNat 32 (2 * v) := by
  cases b
  · simp [b01]
  · apply BitVec.eq_of_toNat_eq
    simp only [b01, if_true, BitVec.toNat_xor, BitVec.toNat_ofNat]
    rw [Nat.mod_eq_of_lt (by omega), Nat.mod_eq_of_lt (by omega : 2 * v < 2 ^ 32), Nat.mod_eq_of_lt (by omega : 1 < 2 ^ 32)]
    have : 1 ^^^ (2 * v) = 2 * v + 1 := by
      apply Nat.eq_of_testBit_eq
      intro i
      cases i with
      | zero => rw [Nat.testBit_xor, Nat.testBit_zero, Nat.testBit_zero, Nat.testBit_zero, show 2 * v % 2 = 0 from by omega, show (2 * v + 1) % 2 = 1 from by omega]; rfl
      | succ i => rw [Nat.testBit_xor, Nat.testBit_succ, Nat.testBit_succ, Nat.testBit_succ, show 1 / 2 = 0 from rfl, show 2 * v / 2 = v from by omega, show (2 * v + 1) / 2 = v from by omega]; simp
    omega
/-- What up to thirty-two bits leave: as their number at once. -/
theorem B_val : ∀ (l : List Bool) (c : W), l.length ≤ 32 → B c l = Tn l.length (c ^^^ BitVec.ofNat 32 (val l)) := by
  intro l
  induction l with
  | nil => intro c _; simp [B, val, Tn]
  | cons b l ih =>
    intro c h
    simp only [List.length_cons] at h
    have hv : val l < 2 ^ 31 := Nat.lt_of_lt_of_le (val_lt l) (Nat.pow_le_pow_right (by omega) (by omega))
    rw [B_cons, ih _ (by omega)]
    show _ = Tn l.length (T _)
    congr 1
    simp only [val]
    rw [cons_val b _ hv, ← BitVec.xor_assoc, T_xor (c ^^^ b01 b), T_twice _ hv]
theorem B_lin : ∀ (l m : List Bool) (c d : W), l.length = m.length → B c l ^^^ B d m = B (c ^^^ d) (List.zipWith xor l m) := by
  intro l
  induction l with
  | nil => intro m c d h; cases m with | nil => rfl | cons _ _ => simp at h
  | cons b l ih =>
    intro m c d h
    cases m with
    | nil => simp at h
    | cons b' m =>
      simp only [List.length_cons, Nat.add_right_cancel_iff] at h
      rw [B_cons, B_cons, ih m _ _ h, List.zipWith_cons_cons, B_cons, ← T_xor]
      have hb : b01 (xor b b') = b01 b ^^^ b01 b' := by cases b <;> cases b' <;> decide
      rw [hb]
      congr 2
      ac_rfl
theorem B_zeros (c : W) (n : Nat) : B c (List.replicate n false) = Tn n c := by
  induction n generalizing c with
  | zero => rfl
  | succ n ih =>
    rw [List.replicate_succ, B_cons, ih]
    show Tn n (T (c ^^^ b01 false)) = Tn n (T c)
    simp [b01]
/-! ### Bytes -/
def byteBits (x : Nat) : List Bool := (List.range 8).map (fun k => x.testBit k)
def bitsOf (l : List Nat) : List Bool := l.flatMap byteBits
theorem byteBits_len (x : Nat) : (byteBits x).length = 8 := by simp [byteBits]
theorem val_byte_fin : ∀ x : Fin 256, val (byteBits x.val) = x.val := by decide +kernel
theorem val_byte (x : Nat) (h : x < 256) : val (byteBits x) = x := val_byte_fin ⟨x, h⟩
theorem bitsOf_cons (x : Nat) (l : List Nat) : bitsOf (x :: l) = byteBits x ++ bitsOf l := rfl
theorem bitsOf_append (l m : List Nat) : bitsOf (l ++ m) = bitsOf l ++ bitsOf m := by unfold bitsOf; rw [List.flatMap_append]
theorem bitsOf_len (l : List Nat) : (bitsOf l).length = 8 * l.length := by
  induction l with
  | nil => rfl
  | cons x l ih => rw [bitsOf_cons, List.length_append, byteBits_len, ih, List.length_cons]; omega
/-- Bytes. -/
def F (c : W) (l : List Nat) : W := B c (bitsOf l)
theorem F_nil (c : W) : F c [] = c := rfl
theorem F_cons (c : W) (x : Nat) (l : List Nat) (h : x < 256) : F c (x :: l) = F (Tn 8 (c ^^^ BitVec.ofNat 32 x)) l := by
  unfold F
  rw [bitsOf_cons, B_append, B_val (byteBits x) c (by rw [byteBits_len]; omega), val_byte x h, byteBits_len]
theorem F_append (c : W) (l m : List Nat) : F c (l ++ m) = F (F c l) m := by unfold F; rw [bitsOf_append, B_append]
theorem F_snoc (c : W) (x : Nat) (l : List Nat) (h : x < 256) : F c (l ++ [x]) = Tn 8 (F c l ^^^ BitVec.ofNat 32 x) := by
  rw [F_append, F_cons _ _ _ h, F_nil]
/-- The sum of bytes. -/
def crc (l : List Nat) : W := ~~~ (F (~~~ 0#32) l)
/-! ### Half bytes -/
theorem T_shl (y : W) (h : y.toNat < 2 ^ 31) : T (y <<< 1) = y := by
  have := T_twice y.toNat h
  have e : BitVec.ofNat 32 (2 * y.toNat) = y <<< 1 := by
    apply BitVec.eq_of_toNat_eq
    rw [BitVec.toNat_ofNat, BitVec.toNat_shiftLeft, Nat.shiftLeft_eq]
    omega
  rw [e] at this
  rw [this]; simp
theorem Tn4_shl (y : W) (h : y.toNat < 2 ^ 28) : Tn 4 (y <<< 4) = y := by
  have e : ∀ (z : W) (k : Nat), (z <<< (k + 1)) = (z <<< k) <<< 1 := fun z k => by rw [BitVec.shiftLeft_add]
  have n : ∀ k, k ≤ 3 → (y <<< k).toNat < 2 ^ 31 := by
    intro k hk
    rw [BitVec.toNat_shiftLeft, Nat.shiftLeft_eq]
    have : y.toNat * 2 ^ k ≤ y.toNat * 2 ^ 3 := Nat.mul_le_mul_left _ (Nat.pow_le_pow_right (by omega) hk)
    rw [Nat.mod_eq_of_lt (by omega)]; omega
  show T (T (T (T (y <<< 4)))) = y
  rw [e y 3, T_shl _ (n 3 (by omega)), e y 2, T_shl _ (n 2 (by omega)), e y 1, T_shl _ (n 1 (by omega)), show y <<< 1 = y <<< 1 from rfl, T_shl _ h']
  where h' : y.toNat < 2 ^ 31 := by omega
theorem split4 (c : W) : c = (c &&& 15#32) ^^^ ((c >>> 4) <<< 4) := by
  apply BitVec.eq_of_getLsbD_eq
  intro i hi
  rw [BitVec.getLsbD_xor, BitVec.getLsbD_and, BitVec.getLsbD_shiftLeft, BitVec.getLsbD_ushiftRight]
  have h15 : ∀ j : Fin 32, (15#32).getLsbD j.val = decide (j.val < 4) := by decide
  rw [h15 ⟨i, hi⟩]
  by_cases h4 : i < 4
  · simp [h4]
  · simp [h4, hi, show 4 + (i - 4) = i from by omega]
theorem half (c : W) : Tn 4 (c &&& 15#32) ^^^ (c >>> 4) = Tn 4 c := by
  have h : (c >>> 4).toNat < 2 ^ 28 := by
    rw [BitVec.toNat_ushiftRight, Nat.shiftRight_eq_div_pow]
    have := c.isLt
    omega
  conv => rhs; rw [split4 c]
  rw [Tn_xor, Tn4_shl _ h]
theorem two_halves (c : W) : Tn 4 ((Tn 4 (c &&& 15#32) ^^^ (c >>> 4)) &&& 15#32) ^^^ ((Tn 4 (c &&& 15#32) ^^^ (c >>> 4)) >>> 4) = Tn 8 c := by
  rw [half, half, ← Tn_add]
end Go.Proofs.Ytdekdcleeignoaa.Chk
