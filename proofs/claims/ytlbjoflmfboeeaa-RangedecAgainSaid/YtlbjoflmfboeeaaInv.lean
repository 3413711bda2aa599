/-
  Decoding is the inverse of encoding. Plain theorems; no condition but those told.
-/
import Derived.Test.YtlbjoflmfboeeaaErm
import Derived.Test.YtlbjoflmfboeeaaDes
set_option linter.unusedVariables false
namespace Go.Proofs.Ytlbjoflmfboeeaa.Deco
open Go.RowKit Go.Proofs.Ytlbjoflmfboeeaa Go.Proofs.Ytlbjoflmfboeeaa.Dig

/-- The number that the first n bytes hold, noughts behind. -/
def X (bs : List Int) : Nat → Int
  | 0 => 0
  | n + 1 => X bs n * 256 + bs.getD n 0
theorem X_congr (a b : List Int) (n : Nat) (h : ∀ i, i < n → a.getD i 0 = b.getD i 0) : X a n = X b n := by
  induction n with
  | zero => rfl
  | succ n ih => show X a n * 256 + a.getD n 0 = X b n * 256 + b.getD n 0; rw [ih (fun i hi => h i (by omega)), h n (by omega)]
theorem X_vl (D : List Int) (n : Nat) (h : n ≤ D.length) : X D n = vl (D.take n) := by
  induction n with
  | zero => simp [X, vl]
  | succ n ih =>
    show X D n * 256 + D.getD n 0 = _
    rw [ih (by omega), List.take_succ_eq_append_getElem (show n < D.length by omega), vl_snoc, getD_get D n (by omega)]
theorem X_all (D : List Int) : X D D.length = vl D := by rw [X_vl D _ (Nat.le_refl _), List.take_of_length_le (Nat.le_refl _)]
theorem getD_pre (a t : List Int) (i : Nat) (h : i < a.length) : (a ++ t).getD i 0 = a.getD i 0 := by
  rw [List.getD_eq_getElem?_getD, List.getD_eq_getElem?_getD, List.getElem?_append_left h]
theorem getD_zeros (a : List Int) (n i : Nat) : (a ++ List.replicate n 0).getD i 0 = a.getD i 0 := by
  rw [List.getD_eq_getElem?_getD, List.getD_eq_getElem?_getD]
  by_cases h : i < a.length
  · rw [List.getElem?_append_left h]
  · rw [List.getElem?_append_right (by omega), List.getElem?_eq_none (l := a) (by omega)]
    by_cases h2 : i - a.length < n
    · rw [List.getElem?_replicate_of_lt h2]; rfl
    · rw [List.getElem?_eq_none (by simp; omega)]
/-- The bytes lie in what the encoder told. -/
def Inside (bs : List Int) (R : Enc.RSt) : Prop := vl R.D ≤ X bs (R.K + 4) ∧ X bs (R.K + 4) < vl R.D + R.S
/-- The decoder stands where the encoder stood. -/
structure DRel (d : DSt) (R : Enc.RSt) : Prop where
  n : d.n = R.K + 4
  sz : d.sz = R.S
  co : d.co = X d.bs (R.K + 4) - vl R.D
theorem open_rel (bs : List Int) : DRel (openS bs) Enc.rfresh := by
  refine ⟨rfl, rfl, ?_⟩
  show _ = X bs 4 - 0
  show (((0 * 256 + bs.getD 0 0) * 256 + bs.getD 1 0) * 256 + bs.getD 2 0) * 256 + bs.getD 3 0 = (((0 * 256 + bs.getD 0 0) * 256 + bs.getD 1 0) * 256 + bs.getD 2 0) * 256 + bs.getD 3 0 - 0
  omega
theorem byte_at {bs : List Int} (h : ∀ x ∈ bs, 0 ≤ x ∧ x ≤ 255) (n : Nat) : 0 ≤ bs.getD n 0 ∧ bs.getD n 0 ≤ 255 := by
  rw [List.getD_eq_getElem?_getD]
  by_cases hn : n < bs.length
  · rw [List.getElem?_eq_getElem hn]; exact h _ (List.getElem_mem hn)
  · rw [List.getElem?_eq_none (by omega)]; decide
theorem norm_inside (bs : List Int) (hb : ∀ x ∈ bs, 0 ≤ x ∧ x ≤ 255) (n : Nat) : ∀ R : Enc.RSt, Inside bs (Enc.rnorm n R) → Inside bs R := by
  induction n with
  | zero => intro R h; exact h
  | succ n ih =>
    intro R h
    unfold Enc.rnorm at h
    by_cases hc : R.S < 16777216
    · rw [if_pos hc] at h
      have h2 := ih _ h
      unfold Inside at h2 ⊢
      have e1 : vl (Enc.rstep R).D = vl R.D * 256 := by show vl (R.D ++ [0]) = _; rw [vl_snoc]; omega
      have e2 : (Enc.rstep R).S = R.S * 256 := rfl
      have e3 : X bs ((Enc.rstep R).K + 4) = X bs (R.K + 4) * 256 + bs.getD (R.K + 4) 0 := by
        show X bs (R.K + 1 + 4) = _
        rw [show R.K + 1 + 4 = R.K + 4 + 1 from by omega, X]
      have hx := byte_at hb (R.K + 4)
      rw [e1, e2, e3] at h2
      omega
    · rw [if_neg hc] at h; exact h
theorem dnorm_rel (n : Nat) : ∀ (d : DSt) (R : Enc.RSt), DRel d R → DRel (dnorm n d) (Enc.rnorm n R) ∧ (dnorm n d).bs = d.bs := by
  induction n with
  | zero => intro d R h; exact ⟨h, rfl⟩
  | succ n ih =>
    intro d R h
    unfold dnorm Enc.rnorm
    rw [h.sz]
    by_cases hc : R.S < 16777216
    · rw [if_pos hc, if_pos hc]
      have h2 : DRel (nextS ⟨d.bs, d.n, d.co, R.S * 256⟩) (Enc.rstep R) := by
        refine ⟨?_, rfl, ?_⟩
        · show d.n + 1 = R.K + 1 + 4
          rw [h.n]
        · show d.co * 256 + d.bs.getD d.n 0 = X d.bs (R.K + 1 + 4) - vl (R.D ++ [0])
          rw [show R.K + 1 + 4 = R.K + 4 + 1 from by omega, vl_snoc, h.co, h.n]
          show _ = X d.bs (R.K + 4) * 256 + d.bs.getD (R.K + 4) 0 - _
          omega
      exact ih _ _ h2
    · rw [if_neg hc, if_neg hc]; exact ⟨h, rfl⟩
theorem put_vl {R : Enc.RSt} (g : Enc.RGood R) {lo ow al : Int} (may : Enc.May lo ow al) : vl (carF (R.K + 3) (addF 4 R.D R.K (R.S / al * lo)) R.K) = vl R.D + R.S / al * lo := by
  obtain ⟨p0, p1, p2, p3⟩ := may
  have s0 := g.s0
  have s1 := g.s1
  have b1 := Enc.mul_bd (R.S / al) lo al R.S rfl (by omega) p0 (by omega) (by omega)
  have hv : vl (addF 4 R.D R.K (R.S / al * lo)) = vl R.D + R.S / al * lo := by
    have := addF_vl 4 (by omega) R.D R.K (R.S / al * lo) g.len b1.1 (by show R.S / al * lo < 4294967296; omega)
    simpa using this
  rw [carF_vl (R.K + 3) (addF 4 R.D R.K (R.S / al * lo)) R.K (by rw [addF_len, g.len]; omega), hv]
/-- Behind a part the bytes lie in the part. -/
theorem put_inside {bs : List Int} (hb : ∀ x ∈ bs, 0 ≤ x ∧ x ≤ 255) {R : Enc.RSt} (g : Enc.RGood R) {lo ow al : Int} (may : Enc.May lo ow al) (h : Inside bs (Enc.rputS R lo ow al)) :
    R.S / al * lo ≤ X bs (R.K + 4) - vl R.D ∧ X bs (R.K + 4) - vl R.D < R.S / al * lo + R.S / al * ow := by
  have h2 := norm_inside bs hb 2 _ h
  unfold Inside at h2
  simp only [put_vl g may] at h2
  omega
theorem put_back {bs : List Int} (hb : ∀ x ∈ bs, 0 ≤ x ∧ x ≤ 255) {R : Enc.RSt} (g : Enc.RGood R) {lo ow al : Int} (may : Enc.May lo ow al) (h : Inside bs (Enc.rputS R lo ow al)) : Inside bs R := by
  have h2 := put_inside hb g may h
  obtain ⟨p0, p1, p2, p3⟩ := may
  have s0 := g.s0
  have b1 := Enc.mul_bd (R.S / al) lo al R.S rfl (by omega) p0 (by omega) (by omega)
  have b2 := Enc.mul_bd (R.S / al) (lo + ow) al R.S rfl (by omega) (by omega) (by omega) (by omega)
  rw [Int.mul_add] at b2
  unfold Inside
  omega
theorem take_rel {d : DSt} {R : Enc.RSt} (h : DRel d R) (g : Enc.RGood R) {lo ow al : Int} (may : Enc.May lo ow al) (hb : ∀ x ∈ d.bs, 0 ≤ x ∧ x ≤ 255) (hi : Inside d.bs (Enc.rputS R lo ow al)) :
    (lo ≤ atS d al ∧ atS d al < lo + ow) ∧ DRel (takeS d lo ow al) (Enc.rputS R lo ow al) ∧ (takeS d lo ow al).bs = d.bs := by
  have h2 := put_inside hb g may hi
  rw [← h.co] at h2
  have hpv := put_vl g may
  obtain ⟨p0, p1, p2, p3⟩ := may
  have s0 := g.s0
  have b3 := Enc.each_lo al R.S (by omega) p3 s0
  constructor
  · unfold atS
    rw [h.sz]
    obtain ⟨e, he⟩ : ∃ e, R.S / al = e := ⟨_, rfl⟩
    rw [he] at h2 b3 ⊢
    have h3 : lo ≤ d.co / e := (Int.le_ediv_iff_mul_le (by omega)).2 (by rw [Int.mul_comm]; exact h2.1)
    have h4 : d.co / e < lo + ow := (Int.ediv_lt_iff_lt_mul (by omega)).2 (by rw [Int.mul_comm, Int.mul_add]; exact h2.2)
    omega
  · unfold takeS Enc.rputS
    rw [h.sz]
    have e : min (d.co - R.S / al * lo) (R.S / al * ow - 1) = d.co - R.S / al * lo := by omega
    rw [e]
    refine dnorm_rel 2 _ _ ⟨h.n, rfl, ?_⟩
    show d.co - R.S / al * lo = X d.bs (R.K + 4) - vl (carF (R.K + 3) (addF 4 R.D R.K (R.S / al * lo)) R.K)
    rw [hpv, h.co]
    omega
theorem find_is (L : List Int) (hp : ∀ x ∈ L, 0 ≤ x) : ∀ (k : Nat) (x : Int), (hk : k < L.length) → Mdl.lsum (L.take k) ≤ x → x < Mdl.lsum (L.take k) + L[k] → Mdl.find L x = k := by
  induction L with
  | nil => intro k x hk; simp at hk
  | cons a l ih =>
    intro k x hk h1 h2
    rw [Mdl.find_cons]
    cases k with
    | zero =>
      rw [if_pos (.inl (by simp [Mdl.lsum] at h2; exact h2))]
    | succ k =>
      have e : Mdl.lsum ((a :: l).take (k + 1)) = a + Mdl.lsum (l.take k) := by simp [Mdl.lsum]
      rw [e] at h1 h2
      have hn := Mdl.lsum_nonneg (l.take k) (fun y hy => hp y (List.mem_cons_of_mem _ (List.mem_of_mem_take hy)))
      have hk2 : k < l.length := by simp at hk; exact hk
      rw [if_neg (by rintro (h | h); omega; subst h; simp at hk2)]
      have e2 : (a :: l)[k + 1] = l[k] := rfl
      rw [e2] at h2
      rw [ih (fun y hy => hp y (List.mem_cons_of_mem _ hy)) k (x - a) hk2 (by omega) (by omega)]
theorem sym_inv {d : DSt} {R : Enc.RSt} (h : DRel d R) (g : Enc.RGood R) {L : List Int} (good : Mdl.Good L) {k : Nat} (hk : k < L.length) (hb : ∀ x ∈ d.bs, 0 ≤ x ∧ x ≤ 255) (hi : Inside d.bs (Enc.rsymS R L k)) :
    symK d L = k ∧ DRel (symS d L) (Enc.rsymS R L k) ∧ (symS d L).bs = d.bs := by
  have h2 := take_rel h g (Enc.may_of good k hk) hb hi
  have e : symK d L = k := by
    unfold symK
    refine find_is L good.nonneg k _ hk h2.1.1 ?_
    have := h2.1.2
    rw [getD_get L k hk] at this
    exact this
  refine ⟨e, ?_⟩
  unfold symS
  rw [e]
  exact h2.2
theorem sym_back {bs : List Int} (hb : ∀ x ∈ bs, 0 ≤ x ∧ x ≤ 255) {R : Enc.RSt} (g : Enc.RGood R) {L : List Int} (good : Mdl.Good L) {k : Nat} (hk : k < L.length) (h : Inside bs (Enc.rsymS R L k)) : Inside bs R :=
  put_back hb g (Enc.may_of good k hk) h
theorem bits_back {bs : List Int} (hb : ∀ x ∈ bs, 0 ≤ x ∧ x ≤ 255) {R : Enc.RSt} (g : Enc.RGood R) (n : Int) (w : Nat) (hw : w ≤ 24) (h : Inside bs (Enc.rbitsS R n w)) : Inside bs R := by
  unfold Enc.rbitsS at h
  split at h
  · exact h
  · split at h
    · rename_i h0 h1
      exact put_back hb g (Enc.may_bits n h1) h
    · rename_i h0 h1
      exact put_back hb g (Enc.may_bits12 _) (put_back hb (Enc.rput_good g (Enc.may_bits12 _)).1 (Enc.may_bits n (show w - 12 ≤ 12 by omega)) h)
theorem bits_inv {d : DSt} {R : Enc.RSt} (h : DRel d R) (g : Enc.RGood R) {n : Int} {w : Nat} (n0 : 0 ≤ n) (n1 : n < 2 ^ w) (hw : w ≤ 24) (hb : ∀ x ∈ d.bs, 0 ≤ x ∧ x ≤ 255) (hi : Inside d.bs (Enc.rbitsS R n w)) :
    (bitsD d 0 w).1 = n ∧ DRel (bitsD d 0 w).2 (Enc.rbitsS R n w) ∧ (bitsD d 0 w).2.bs = d.bs := by
  unfold Enc.rbitsS at hi ⊢
  unfold bitsD
  by_cases h0 : w = 0
  · subst h0
    simp only [if_pos]
    refine ⟨by have : (2 : Int) ^ 0 = 1 := rfl; omega, ?_⟩
    simp only [if_pos] at hi
    exact ⟨h, trivial⟩
  · rw [if_neg h0] at hi
    rw [if_neg h0, if_neg h0]
    by_cases h1 : w ≤ 12
    · rw [if_pos h1] at hi
      rw [if_pos h1, if_pos h1]
      have h2 := take_rel h g (Enc.may_bits n h1) hb hi
      rw [Int.emod_eq_of_lt n0 n1] at h2 ⊢
      have e : atS d (2 ^ w) = n := by omega
      rw [e]
      exact ⟨by simp only; omega, h2.2⟩
    · rw [if_neg h1] at hi
      rw [if_neg h1, if_neg h1]
      have hw2 : w - 12 ≤ 12 := by omega
      have my1 := Enc.may_bits12 (n / 2 ^ (w - 12))
      have g1 := (Enc.rput_good g my1).1
      have my2 := Enc.may_bits n hw2
      have hi1 := put_back hb g1 my2 hi
      have h2 := take_rel h g my1 hb hi1
      have hp : (0 : Int) < 2 ^ (w - 12) := Int.pow_pos (by omega)
      have ep : (2 : Int) ^ w = 4096 * 2 ^ (w - 12) := by
        have : w = 12 + (w - 12) := by omega
        conv => lhs; rw [this, Int.pow_add]
        rfl
      have eq : n / 2 ^ (w - 12) % 4096 = n / 2 ^ (w - 12) := by
        refine Int.emod_eq_of_lt (Int.ediv_nonneg n0 (by omega)) ?_
        refine (Int.ediv_lt_iff_lt_mul hp).2 ?_
        rw [← ep]; exact n1
      rw [eq] at h2 g1 hi ⊢
      have e : atS d 4096 = n / 2 ^ (w - 12) := by omega
      have h3 := take_rel h2.2.1 g1 my2 (by rw [h2.2.2]; exact hb) (by rw [h2.2.2]; exact hi)
      simp only [e]
      have e2 : atS (takeS d (n / 2 ^ (w - 12)) 1 4096) (2 ^ (w - 12)) = n % 2 ^ (w - 12) := by omega
      rw [e2]
      refine ⟨?_, h3.2.1, by rw [h3.2.2, h2.2.2]⟩
      have := Int.ediv_mul_add_emod n (2 ^ (w - 12))
      rw [Int.zero_mul, Int.zero_add]
      exact this
end Go.Proofs.Ytlbjoflmfboeeaa.Deco
