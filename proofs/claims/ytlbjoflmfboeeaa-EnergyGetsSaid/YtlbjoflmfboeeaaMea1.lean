/- Texts of this session, merged. -/
import Derived.StillTail
import Derived.Deep.QuietTactic
import Derived.BigQuiet
import Derived.Test.YtlbjoflmfboeeaaU1
import Derived.Test.YtlbjoflmfboeeaaPLen32x1
import Derived.Test.YtlbjoflmfboeeaaPQuantNearx1
import Derived.Test.YtlbjoflmfboeeaaU2
import Derived.Deep.AppendLies
import Derived.Maps.AppendAt
import Derived.Test.YtlbjoflmfboeeaaChecked
import Derived.Deep.RegionHeld3
import Derived.Deep.RegionLaw
/-
  A region that draws its order, whose first operations read (or call what reads and draws), and whose last ones stand in one forced order: one walk in the text's order serves every order. A plain theorem over the library's; no condition.
-/
set_option linter.unusedVariables false
namespace Go.Proofs.Ytlbjoflmfboeeaa
open Go

section
variable {P : Program} {ops : Array Oper} {md : Region.Mode} {C : World → Prop}
/-- Whatever order is picked, the first n operations come up, quietly, ahead of all others; then L. -/
def QHead (P : Program) (md : Region.Mode) (ops : Array Oper) (C : World → Prop) (n : Nat) (L : Array Bool → Act → Prop) : Nat → Array Bool → Act → Prop
  | 0, ls, a => L ls a
  | f + 1, ls, a => Region.ready md ops ls ≠ [] ∧ ∀ i ∈ Region.ready md ops ls, i < n ∧ qOp P ops C i (QHead P md ops C n L f (ls.setIfInBounds i true)) a
theorem QHead.any {n g : Nat} {L : Array Bool → Act → Prop} {Q : Exit → Act → World → Prop} (hL : ∀ ls a w, C w → L ls a → wpAny P md ops Q g ls a w) :
    ∀ (f : Nat) (ls : Array Bool) (a : Act) (w : World), C w → QHead P md ops C n L f ls a → wpAny P md ops Q (f + g) ls a w := by
  intro f
  induction f with
  | zero => intro ls a w hw h; rw [Nat.zero_add]; exact hL _ _ _ hw h
  | succ f ih =>
    intro ls a w hw h
    rw [show f + 1 + g = (f + g) + 1 from by omega]
    exact ⟨fun e => absurd e h.1, fun i hi => wpOp_of_qOp hw (fun a' w' hw' h' => ih _ a' w' hw' h') (h.2 i hi).2⟩
/-- The one of them that comes first in the text may be taken first. -/
theorem QHead.first {n i : Nat} {oi : Oper} {v : Value} {L : Array Bool → Act → Prop} (hi : ops[i]? = some oi) (hsel : ∀ (j : Nat) (o : Oper) cs b, ops[j]? = some o → o.op ≠ .select cs b)
    (hs : Region.sinkB md ops n = true) (hc : Region.chainB md ops n = true) (hn : n < ops.size) (hin : i < n) (hL : ∀ ls a, L ls a → ∀ j ∈ Region.ready md ops ls, n ≤ j) :
    ∀ (f : Nat) (ls : Array Bool) (a : Act), HeadInv md ops n ls →
      (∀ j oj, ops[j]? = some oj → j ≠ i → ls.getD j true = false → (∀ e ∈ oj.after, Region.binds md e = true → e.on ≠ i) → oi.apart ops oj = true) →
      i ∈ Region.ready md ops ls → YieldsIn P ops C oi v a → QHead P md ops C n L f (ls.setIfInBounds i true) (a.put oi.dst v) → QHead P md ops C n L (f + 1) ls a := by
  intro f
  induction f with
  | zero =>
    intro ls a inv _ hr hy H
    have hun := (mem_ready.1 hr).1
    refine ⟨fun e => (by rw [e] at hr; cases hr), fun j hj => ?_⟩
    have hjn : j < n := Nat.lt_of_not_le fun hle => tail_waits hs hc hn inv _ i rfl hin hun j hle hj
    refine ⟨hjn, ?_⟩
    by_cases hji : j = i
    · subst hji; exact hy.qOp hi H
    · have := hL _ _ H j (ready_mono hj hji)
      omega
  | succ f ih =>
    intro ls a inv hfree hr hy H
    have hun := (mem_ready.1 hr).1
    refine ⟨fun e => (by rw [e] at hr; cases hr), fun j hj => ?_⟩
    have hjn : j < n := Nat.lt_of_not_le fun hle => tail_waits hs hc hn inv _ i rfl hin hun j hle hj
    refine ⟨hjn, ?_⟩
    by_cases hji : j = i
    · subst hji; exact hy.qOp hi H
    · have h1 := (H.2 j (ready_mono hj hji)).2
      obtain ⟨hjun, oj, hoj, hall⟩ := mem_ready.1 hj
      have hnot : ∀ e ∈ oj.after, Region.binds md e = true → e.on ≠ i := by
        intro e he hb heq
        have h2 := hall e he hb
        rw [heq, getD_both hun] at h2
        cases h2
      have h2 := qOp_put hoj (hfree j oj hoj hji hjun hnot) (fun cs b => hsel i oi cs b hi) (fun cs b => hsel j oj cs b hoj) hy h1
      have hfree' : ∀ k ok, ops[k]? = some ok → k ≠ i → (ls.setIfInBounds j true).getD k true = false → (∀ e ∈ ok.after, Region.binds md e = true → e.on ≠ i) → oi.apart ops ok = true := by
        intro k ok hk hki hkun hno
        refine hfree k ok hk hki ?_ hno
        by_cases hjk : j = k
        · subst hjk; exact hjun
        · rwa [getD_set_ne true hjk] at hkun
      refine qOp_mono (fun a' h3 => ih _ a' (inv.set hj hjn) hfree' (ready_mono hr (Ne.symm hji)) h3.1 ?_) h2
      rw [Array.setIfInBounds_comm _ _ hji]
      exact h3.2
theorem QHead.lex {n g : Nat} {Lq : Act → Prop} (hsel : Region.noSelect ops = true) (hs : Region.sinkB md ops n = true) (hc : Region.chainB md ops n = true) (hn : n < ops.size) :
    ∀ (l : List Oper) (k : Nat) (ls : Array Bool) (a : Act), (∀ j, j < l.length → l[j]? = ops[k + j]?) → k + l.length = n → HeadInv md ops n ls → Region.lexHead md ops g l.length k ls = true →
      wpQuiet P ops C Lq l a → QHead P md ops C n (fun ls' a' => Region.seqB md ops g n ls' = true ∧ Lq a') l.length ls a := by
  intro l
  induction l with
  | nil =>
    intro k ls a _ hk _ hB h
    obtain rfl : k = n := by simpa using hk
    exact ⟨by simpa [Region.lexHead] using hB, h⟩
  | cons o l ih =>
    intro k ls a hl hk inv hB h
    have h0 : ops[k]? = some o := by simpa using (hl 0 (by simp)).symm
    simp only [List.length_cons, Region.lexHead, Bool.and_eq_true] at hB
    have hkn : k < n := by simp only [List.length_cons] at hk; omega
    have hr : k ∈ Region.ready md ops ls := by simpa using hB.1.1
    have hst : qOp P ops C k (wpQuiet P ops C Lq l) a := by unfold qOp; simp only [h0]; exact h
    obtain ⟨v, hy, hK⟩ := yieldsIn_of_qOp h0 hst
    refine QHead.first h0 (Region.noSelect_spec hsel) hs hc hn hkn (fun ls' a' hL => seqB_ready hL.1) l.length ls a inv (Region.free_spec h0 hB.1.2) hr hy ?_
    refine ih (k + 1) _ _ (fun j hj => ?_) (by simp only [List.length_cons] at hk; omega) (inv.set hr hkn) hB.2 hK
    have := hl (j + 1) (by simp; omega)
    simpa [Nat.add_assoc, Nat.add_comm 1 j] using this
theorem region_quiet_tail {id : Nat} {Q : Exit → Act → World → Prop} {a : Act} {w : World} {l : List Oper} (n : Nat) (hm : P.follows .mixedOrders = true) (hB : Region.lexTailB .any l.toArray n = true)
    (h : wpQuiet P l.toArray (fun w' => ∃ n, w' = w.drewN n) (fun a' => ∀ w', (∃ n, w' = w.drewN n) → wpList P l.toArray Q (l.drop n) a' w') (l.take n) a) : (Code.region id l.toArray true).wp P Q a w := by
  simp only [Region.lexTailB, Bool.and_eq_true, decide_eq_true_eq] at hB
  obtain ⟨⟨⟨⟨hsel, hn⟩, hs⟩, hc⟩, hlex⟩ := hB
  have hn' : n < l.length := by simpa using hn
  have htl : (l.take n).length = n := by simp; omega
  have hdl : (l.drop n).length = l.toArray.size - n := by simp
  have inv0 : HeadInv .any l.toArray n (Array.replicate l.toArray.size false) :=
    ⟨by simp, fun j oj _ hl => (by rw [getD_replicate_false] at hl; cases hl), fun t _ ht => getD_in (by simpa using ht) (getD_replicate_false _ _)⟩
  refine wp_region_any hm ?_
  have hh := QHead.lex (P := P) (C := fun w' => ∃ n, w' = w.drewN n) (g := (l.drop n).length) hsel hs hc hn (l.take n) 0 (Array.replicate l.toArray.size false) a
    (fun j hj => by rw [htl] at hj; simp [hj]) (by simpa using htl) inv0 (by rw [htl, hdl]; exact hlex) h
  have := QHead.any (Q := Q) (fun ls a w' hw' hL => wpAny_of_seq (l.drop n) n ls a w' (fun j => by simp) hL.1 (hL.2 w' hw')) (l.take n).length _ a _ ⟨1, rfl⟩ hh
  rw [htl, hdl] at this
  have hsz : n + (l.toArray.size - n) = l.toArray.size := by simp; omega
  rw [hsz] at this
  exact this
end
end Go.Proofs.Ytlbjoflmfboeeaa

/-
  The walk of energy.Ceilings: the ceilings of 512 lines; ErrArg of any other number of them. No condition.
-/
set_option linter.unusedVariables false
set_option linter.unusedSimpArgs false
namespace Go.Proofs.Ytlbjoflmfboeeaa.Ceil
open Go.RowKit Go.Proofs.Ytlbjoflmfboeeaa Go.Proofs.YtlbjoflmfboeeaaW.PrintWords Go.Proofs.YtlbjoflmfboeeaaW.PrintLast Go.Proofs.YtlbjoflmfboeeaaW.PrintMore
open Go.Proofs.Ytlbjoflmfboeeaa.PLen32 (bits_Len32.f bits_Len32.calls)

theorem w64 {x : Int} (h0 : -9223372036854775808 ≤ x) (h1 : x < 9223372036854775808) : wrap64 x = x := by unfold wrap64; omega
theorem w32 {x : Int} (h0 : -2147483648 ≤ x) (h1 : x < 2147483648) : wrap32 x = x := by unfold wrap32; omega
theorem wf_i64 {x : Int} (h : (Lit.int .i64 x).wf = true) : -9223372036854775808 ≤ x ∧ x < 9223372036854775808 := by
  simp [Lit.wf, IntKind.min, IntKind.max, IntKind.signed, IntKind.bits] at h; omega
theorem wf_i32 {x : Int} (h : (Lit.int .i32 x).wf = true) : -2147483648 ≤ x ∧ x < 2147483648 := by
  simp [Lit.wf, IntKind.min, IntKind.max, IntKind.signed, IntKind.bits] at h; omega
theorem wf_u64 {x : Int} (h : (Lit.int .u64 x).wf = true) : 0 ≤ x ∧ x < 18446744073709551616 := by
  simp [Lit.wf, IntKind.min, IntKind.max, IntKind.signed, IntKind.bits] at h; omega
theorem wf_u32 {x : Int} (h : (Lit.int .u32 x).wf = true) : 0 ≤ x ∧ x < 4294967296 := by
  simp [Lit.wf, IntKind.min, IntKind.max, IntKind.signed, IntKind.bits] at h; omega
/-- Powers of two as whole numbers: the greatest that are asked. -/
theorem pw_pos (n : Nat) : (0 : Int) < 2 ^ n := Int.pow_pos (by omega)
theorem pw_succ (n : Nat) : (2 : Int) ^ (n + 1) = 2 * 2 ^ n := by rw [Int.pow_succ]; omega
theorem pw_le {a b : Nat} (h : a ≤ b) : (2 : Int) ^ a ≤ 2 ^ b := by
  induction h with
  | refl => exact Int.le_refl _
  | step _ ih => rw [pw_succ]; have := pw_pos a; omega
theorem pw62 {n : Nat} (h : n ≤ 62) : (2 : Int) ^ n ≤ 4611686018427387904 := pw_le (a := n) (b := 62) h
theorem and_one_i64 (x : Int) : Go.bits .and .i64 x 1 = x % 2 := by
  show IntKind.i64.wrap ((BitVec.ofInt 64 x &&& BitVec.ofInt 64 1).toNat : Int) = _
  have h1 : (BitVec.ofInt 64 1).toNat = 1 := by decide
  have h2 : ((BitVec.ofInt 64 x).toNat : Int) = x % 18446744073709551616 := by
    rw [BitVec.toNat_ofInt, Int.toNat_of_nonneg (Int.emod_nonneg _ (by decide))]; rfl
  rw [BitVec.toNat_and, h1, Nat.and_one_is_mod, IntKind.wrap_i64]
  omega
/-- n divided by 2^by to the nearest, halves upwards. -/
def rnd (n : Int) (by_ : Nat) : Int := if by_ = 0 then n else n / 2 ^ by_ + n / 2 ^ (by_ - 1) % 2
theorem div_bd (n d : Int) (hd : 1 ≤ d) (h0 : -9223372036854775808 ≤ n) (h1 : n < 9223372036854775808) : -9223372036854775808 ≤ n / d ∧ n / d < 9223372036854775808 := by
  constructor
  · rw [Int.le_ediv_iff_mul_le (by omega)]
    have : (-9223372036854775808 : Int) * d ≤ -9223372036854775808 * 1 := Int.mul_le_mul_of_nonpos_left (by decide) hd
    omega
  · rw [Int.ediv_lt_iff_lt_mul (by omega)]
    have : (9223372036854775808 : Int) * 1 ≤ 9223372036854775808 * d := Int.mul_le_mul_of_nonneg_left hd (by decide)
    omega
theorem div2_bd (n d : Int) (hd : 2 ≤ d) (h0 : -9223372036854775808 ≤ n) (h1 : n < 9223372036854775808) : -4611686018427387904 ≤ n / d ∧ n / d < 4611686018427387904 := by
  constructor
  · rw [Int.le_ediv_iff_mul_le (by omega)]
    have : (-4611686018427387904 : Int) * d ≤ -4611686018427387904 * 2 := Int.mul_le_mul_of_nonpos_left (by decide) hd
    omega
  · rw [Int.ediv_lt_iff_lt_mul (by omega)]
    have : (4611686018427387904 : Int) * 2 ≤ 4611686018427387904 * d := Int.mul_le_mul_of_nonneg_left hd (by decide)
    omega
theorem rnd_bd (n : Int) (b : Nat) (h0 : -9223372036854775808 ≤ n) (h1 : n < 9223372036854775808) : -9223372036854775808 ≤ rnd n b ∧ rnd n b < 9223372036854775808 := by
  unfold rnd
  by_cases hb : b = 0
  · rw [if_pos hb]; exact ⟨h0, h1⟩
  · rw [if_neg hb]
    obtain ⟨c, rfl⟩ : ∃ c, b = c + 1 := ⟨b - 1, by omega⟩
    have := div2_bd n (2 ^ (c + 1)) (by rw [pw_succ]; have := pw_pos c; omega) h0 h1
    omega
/-- The least number of so many bits, from 1 to 64. -/
def least (w : Nat) : Int := -2 ^ (w - 1)
/-- n held to w bits; 0, if there are no such bits. -/
def sat (n w : Int) : Int := if w < 1 ∨ 64 < w then 0 else if n < least w.toNat then least w.toNat else if n > -(least w.toNat + 1) then -(least w.toNat + 1) else n
theorem least_bd {w : Nat} (h0 : 1 ≤ w) (h1 : w ≤ 64) : -9223372036854775808 ≤ least w ∧ least w ≤ -1 := by
  unfold least
  have := pw_pos (w - 1)
  have : (2 : Int) ^ (w - 1) ≤ 2 ^ 63 := pw_le (by omega)
  omega
theorem sat_bd (n w : Int) (h0 : -9223372036854775808 ≤ n) (h1 : n < 9223372036854775808) : -9223372036854775808 ≤ sat n w ∧ sat n w < 9223372036854775808 := by
  unfold sat
  by_cases h : w < 1 ∨ 64 < w
  · rw [if_pos h]; omega
  · rw [if_neg h]
    have := least_bd (w := w.toNat) (by omega) (by omega)
    split
    · omega
    · split <;> omega

def TABL : ByteArray := ⟨#[0, 1, 2, 2, 3, 3, 3, 3, 4, 4, 4, 4, 4, 4, 4, 4, 5, 5, 5, 5, 5, 5, 5, 5, 5, 5, 5, 5, 5, 5, 5, 5, 6, 6, 6, 6, 6, 6, 6, 6, 6, 6, 6, 6, 6, 6, 6, 6, 6, 6, 6, 6, 6, 6, 6, 6, 6, 6, 6, 6, 6, 6, 6, 6, 7, 7, 7, 7, 7, 7, 7, 7, 7, 7, 7, 7, 7, 7, 7, 7, 7, 7, 7, 7, 7, 7, 7, 7, 7, 7, 7, 7, 7, 7, 7, 7, 7, 7, 7, 7, 7, 7, 7, 7, 7, 7, 7, 7, 7, 7, 7, 7, 7, 7, 7, 7, 7, 7, 7, 7, 7, 7, 7, 7, 7, 7, 7, 7, 8, 8, 8, 8, 8, 8, 8, 8, 8, 8, 8, 8, 8, 8, 8, 8, 8, 8, 8, 8, 8, 8, 8, 8, 8, 8, 8, 8, 8, 8, 8, 8, 8, 8, 8, 8, 8, 8, 8, 8, 8, 8, 8, 8, 8, 8, 8, 8, 8, 8, 8, 8, 8, 8, 8, 8, 8, 8, 8, 8, 8, 8, 8, 8, 8, 8, 8, 8, 8, 8, 8, 8, 8, 8, 8, 8, 8, 8, 8, 8, 8, 8, 8, 8, 8, 8, 8, 8, 8, 8, 8, 8, 8, 8, 8, 8, 8, 8, 8, 8, 8, 8, 8, 8, 8, 8, 8, 8, 8, 8, 8, 8, 8, 8, 8, 8, 8, 8, 8, 8, 8, 8, 8, 8, 8, 8, 8, 8]⟩
/-- How many bits a number has. -/
def blen (n : Int) : Int := if n ≤ 0 then 0 else (n.toNat.log2 : Int) + 1
theorem TABL_all : ∀ i : Fin 256, bt TABL (i.val : Int) = blen (i.val : Int) := by decide +kernel
theorem TABL_eq (x : Int) (h0 : 0 ≤ x) (h1 : x < 256) : bt TABL x = blen x := by
  have := TABL_all ⟨x.toNat, by omega⟩
  simpa [Int.toNat_of_nonneg h0] using this
theorem blen_small {x : Int} (h0 : 0 ≤ x) (h1 : x < 256) : 0 ≤ blen x ∧ blen x ≤ 8 := by
  unfold blen
  split
  · omega
  · have := (Nat.log2_lt (n := x.toNat) (k := 8) (by omega)).2 (by omega)
    omega
theorem blen_div (x : Int) (j : Nat) (h : (2 : Int) ^ j ≤ x) : blen x = j + blen (x / 2 ^ j) := by
  have hp := pw_pos j
  have hx : 1 ≤ x / 2 ^ j := by rw [Int.le_ediv_iff_mul_le hp]; omega
  unfold blen
  rw [if_neg (by omega), if_neg (by omega)]
  obtain ⟨n, rfl⟩ := Int.eq_ofNat_of_zero_le (show 0 ≤ x by omega)
  have e : ((n : Int) / 2 ^ j).toNat = n / 2 ^ j := by
    rw [show ((2 : Int) ^ j) = ((2 ^ j : Nat) : Int) from by rw [Int.natCast_pow]; rfl, ← Int.natCast_ediv, Int.toNat_natCast]
  have hn : n / 2 ^ j ≠ 0 := by
    intro h0
    rw [← e] at h0
    omega
  rw [e, Int.toNat_natCast]
  have k1 := Nat.log2_self_le hn
  have k2 := Nat.lt_log2_self (n := n / 2 ^ j)
  have : n.log2 = j + (n / 2 ^ j).log2 := by
    rw [Nat.log2_eq_iff (by omega)]
    constructor
    · rw [Nat.pow_add, Nat.mul_comm]
      exact (Nat.le_div_iff_mul_le (Nat.two_pow_pos j)).1 k1
    · rw [show j + (n / 2 ^ j).log2 + 1 = ((n / 2 ^ j).log2 + 1) + j from by omega, Nat.pow_add]
      exact (Nat.div_lt_iff_lt_mul (Nat.two_pow_pos j)).1 k2
  omega
theorem blen_lt {x : Int} (h0 : 0 ≤ x) : x < 2 ^ (blen x).toNat := by
  unfold blen
  split
  · rw [show x = 0 from by omega]; decide
  · obtain ⟨n, rfl⟩ := Int.eq_ofNat_of_zero_le h0
    rw [show (((n : Int).toNat.log2 : Int) + 1).toNat = n.log2 + 1 from by rw [Int.toNat_natCast]; omega]
    have := Nat.lt_log2_self (n := n)
    rw [show ((2 : Int) ^ (n.log2 + 1)) = ((2 ^ (n.log2 + 1) : Nat) : Int) from by rw [Int.natCast_pow]; rfl]
    omega
theorem blen_ge {x : Int} (h : 1 ≤ x) : 1 ≤ blen x ∧ 2 ^ ((blen x).toNat - 1) ≤ x := by
  unfold blen
  rw [if_neg (by omega)]
  obtain ⟨n, rfl⟩ := Int.eq_ofNat_of_zero_le (show 0 ≤ x by omega)
  refine ⟨by omega, ?_⟩
  rw [show (((n : Int).toNat.log2 : Int) + 1).toNat - 1 = n.log2 from by rw [Int.toNat_natCast]; omega]
  have := Nat.log2_self_le (n := n) (by omega)
  rw [show ((2 : Int) ^ n.log2) = ((2 ^ n.log2 : Nat) : Int) from by rw [Int.natCast_pow]; rfl]
  omega
theorem blen_le {x : Int} {j : Nat} (h0 : 0 ≤ x) (h : x < 2 ^ j) : 0 ≤ blen x ∧ blen x ≤ j := by
  unfold blen
  split
  · omega
  · obtain ⟨n, rfl⟩ := Int.eq_ofNat_of_zero_le h0
    rw [Int.toNat_natCast]
    have : n.log2 < j := (Nat.log2_lt (by omega)).2 (by rw [show ((2 : Int) ^ j) = ((2 ^ j : Nat) : Int) from by rw [Int.natCast_pow]; rfl] at h; omega)
    omega

theorem len32_eq (a0 : Int) : bits_Len32.f a0 = (if a0 ≥ 65536 then (if (a0 / 65536) ≥ 256 then (if 0 ≤ (((a0 / 65536) / 256) % 256) then (if (((a0 / 65536) / 256) % 256) < 256 then (some (wrap64 ((16 + 8) + (wrap64 (bt TABL (((a0 / 65536) / 256) % 256)))))) else (none)) else (none)) else (if 0 ≤ ((a0 / 65536) % 256) then (if ((a0 / 65536) % 256) < 256 then (some (wrap64 (16 + (wrap64 (bt TABL ((a0 / 65536) % 256)))))) else (none)) else (none))) else (if a0 ≥ 256 then (if 0 ≤ ((a0 / 256) % 256) then (if ((a0 / 256) % 256) < 256 then (some (wrap64 (8 + (wrap64 (bt TABL ((a0 / 256) % 256)))))) else (none)) else (none)) else (if 0 ≤ ((a0) % 256) then (if ((a0) % 256) < 256 then (some (wrap64 (0 + wrap64 (bt TABL ((a0) % 256))))) else (none)) else (none)))) := by
  first | rfl | (rw [Int.zero_add]; rfl)
theorem len32 (x : Int) (h0 : 0 ≤ x) (h1 : x < 4294967296) : bits_Len32.f x = some (blen x) := by
  have core : ∀ y t : Int, 0 ≤ y → y < 256 → 0 ≤ t → t ≤ 56 → (if 0 ≤ y % 256 then (if y % 256 < 256 then some (wrap64 (t + wrap64 (bt TABL (y % 256)))) else none) else none) = some (t + blen y) := by
    intro y t hy0 hy1 ht0 ht1
    have hb := blen_small hy0 hy1
    rw [if_pos (by omega), if_pos (by omega), show y % 256 = y from by omega, TABL_eq y hy0 hy1, w64 (x := blen y) (by omega) (by omega), w64 (by omega) (by omega)]
  rw [len32_eq]
  by_cases ha : x ≥ 65536
  · rw [if_pos ha]
    have d1 := blen_div x 16 (by omega)
    rw [show ((2 : Int) ^ 16) = 65536 from by decide] at d1
    by_cases hb : x / 65536 ≥ 256
    · rw [if_pos hb]
      have d2 := blen_div (x / 65536) 8 (by omega)
      rw [show ((2 : Int) ^ 8) = 256 from by decide] at d2
      refine (core (x / 65536 / 256) (16 + 8) (by omega) (by omega) (by omega) (by omega)).trans ?_
      congr 1; omega
    · rw [if_neg hb]
      refine (core (x / 65536) 16 (by omega) (by omega) (by omega) (by omega)).trans ?_
      congr 1; omega
  · rw [if_neg ha]
    by_cases hb : x ≥ 256
    · rw [if_pos hb]
      have d2 := blen_div x 8 (by omega)
      rw [show ((2 : Int) ^ 8) = 256 from by decide] at d2
      refine (core (x / 256) 8 (by omega) (by omega) (by omega) (by omega)).trans ?_
      congr 1; omega
    · rw [if_neg hb]
      refine (core x 0 h0 (by omega) (by omega) (by omega)).trans ?_
      congr 1; omega

/-- How many bits a number has, without its sign. -/
def mag (x : Int) : Int := blen (x.natAbs : Int)
def I32 (x : Int) : Prop := -2147483648 ≤ x ∧ x < 2147483648
theorem mag_mx (x : Int) (h : I32 x) : bits_Len32.f ((mx x (wrap32 (-x))) % 4294967296) = some (mag x) := by
  unfold I32 at h
  have e : (mx x (wrap32 (-x))) % 4294967296 = (x.natAbs : Int) := by unfold mx wrap32; split <;> omega
  rw [e, len32 _ (by omega) (by omega)]; rfl
theorem rd_nat (l : List Int) (i : Nat) (h : i < l.length) : rd l (i : Int) = l[i] := by
  unfold rd
  rw [Int.toNat_natCast, List.getD_eq_getElem?_getD, List.getElem?_eq_getElem h]; rfl
theorem set_same (l : List Int) (i : Nat) (h : i < l.length) : l.set i (rd l (i : Int)) = l := by
  rw [rd_nat l i h]; exact List.set_getElem_self h
theorem rd_set (l : List Int) (i : Nat) (v : Int) (h : i < l.length) : rd (l.set i v) (i : Int) = v := by
  rw [rd_nat _ i (by simpa using h)]; simp
/-- The greatest of some numbers' bits, from one on. -/
def most (l : List Int) (m : Int) : Int := l.foldl (fun m x => mx m (mag x)) m
/-- The bands' edges. -/
def edges : List Int := [0, 4, 8, 12, 16, 20, 24, 28, 32, 40, 48, 56, 64, 80, 96, 112, 128, 160, 192, 256, 352, 512]
def edge (i : Nat) : Nat := (edges.getD i 0).toNat
theorem edges_ok : ∀ i : Fin 22, rd edges (i.val : Int) = (edge i.val : Int) ∧ edge i.val ≤ 512 := by decide
theorem edges_up : ∀ i : Fin 21, edge i.val ≤ edge (i.val + 1) := by decide
/-- A band's ceiling, in its place. -/
def one (l : List Int) (out : List Int) (i : Nat) : List Int := out.set i (most ((l.take (edge (i + 1))).drop (edge i)) (rd out (i : Int)))
def ceilsFrom (l : List Int) : Nat → List Int → Nat → List Int
  | 0, out, _ => out
  | d + 1, out, i => ceilsFrom l d (one l out i) (i + 1)
/-- The ceilings of 512 lines. -/
def ceils (l : List Int) : List Int := ceilsFrom l 21 (List.replicate 21 0) 0
theorem most_bd (s : List Int) (hs : ∀ x ∈ s, I32 x) : ∀ m : Int, 0 ≤ m → m ≤ 32 → 0 ≤ most s m ∧ most s m ≤ 32 := by
  induction s with
  | nil => intro m h0 h1; exact ⟨h0, h1⟩
  | cons x s ih =>
    intro m h0 h1
    have hx := hs x (by simp)
    unfold I32 at hx
    have hb : 0 ≤ mag x ∧ mag x ≤ 32 := blen_le (j := 32) (by omega) (by omega)
    have : most (x :: s) m = most s (mx m (mag x)) := rfl
    rw [this]
    refine ih (fun y hy => hs y (by simp [hy])) _ ?_ ?_ <;> (unfold mx; split <;> omega)
theorem ceilsFrom_len (l : List Int) (d : Nat) : ∀ (out : List Int) (i : Nat), (ceilsFrom l d out i).length = out.length := by
  induction d with
  | zero => intro out i; rfl
  | succ d ih => intro out i; show (ceilsFrom l d (one l out i) (i + 1)).length = _; rw [ih]; unfold one; simp
theorem ceils_len (l : List Int) : (ceils l).length = 21 := by unfold ceils; rw [ceilsFrom_len]; simp

theorem len32_calls (x : Int) (h : I32 x) (w : World) : Calls Try.prog 89 #[.int .u32 ((mx x (wrap32 (-x))) % 4294967296)] w fun e w' => e = .returned (.int .i64 (mag x)) ∧ ∃ m, w' = w.drewN m :=
  (bits_Len32.calls _ (mag x) w (mag_mx x h)).mono fun _ _ ⟨he, m, hm⟩ => ⟨he, m, hm⟩
theorem len32_calls' (x : Int) (h : I32 x) (w : World) : Calls Try.prog 89 #[.int .u32 (IntKind.u32.wrap (if x < IntKind.i32.wrap (-x) then IntKind.i32.wrap (-x) else x))] w fun e w' => e = .returned (.int .i64 (mag x)) ∧ ∃ m, w' = w.drewN m := by
  have e : IntKind.u32.wrap (if x < IntKind.i32.wrap (-x) then IntKind.i32.wrap (-x) else x) = (mx x (wrap32 (-x))) % 4294967296 := by
    have h1 : IntKind.i32.wrap (-x) = wrap32 (-x) := by
      unfold IntKind.wrap wrap32
      simp only [IntKind.bits, IntKind.signed]
      simp
      split <;> omega
    have h2 : ∀ n : Int, IntKind.u32.wrap n = n % 4294967296 := fun n => rfl
    rw [h1, h2]; rfl
  rw [e]; exact len32_calls x h w
theorem edges_calls (w : World) : Calls Try.prog 85 #[] w fun e w' => ∃ g cap, e = .returned (.slice (some ⟨g, 0, none⟩) 22 cap) ∧ w.heap.size ≤ g ∧ RowI w' 3 .i64 g cap edges ∧ Below w.heap.size w w' :=
  (PQuantNear.bands_Edges.calls edges w rfl).mono fun e w' ⟨v, he, hr, hb⟩ => by
    obtain ⟨g, cap, hv, hg, hrow⟩ := rowI_of_R hr (by decide)
    exact ⟨g, cap, by rw [he, hv]; rfl, hg, hrow, hb⟩
theorem edges_lt : ∀ i : Fin 21, edge i.val < edge (i.val + 1) := by decide
/-- What the outer loop has: the ceilings of the first k bands. -/
def after (l : List Int) : Nat → List Int
  | 0 => List.replicate 21 0
  | k + 1 => one l (after l k) k
theorem after_len (l : List Int) (k : Nat) : (after l k).length = 21 := by
  induction k with
  | zero => simp [after]
  | succ k ih => show (one l (after l k) k).length = 21; unfold one; simpa using ih
theorem after_from (l : List Int) (d : Nat) : ∀ k, ceilsFrom l d (after l k) k = after l (k + d) := by
  induction d with
  | zero => intro k; rfl
  | succ d ih => intro k; show ceilsFrom l d (after l (k + 1)) (k + 1) = _; rw [ih, show k + 1 + d = k + (d + 1) from by omega]
theorem after_all (l : List Int) : after l 21 = ceils l := by
  have := after_from l 21 0
  rw [show (0 : Nat) + 21 = 21 from rfl] at this
  exact this.symm
theorem addr_block (a : Addr) (n : Nat) : (a.add n).block = a.block := by unfold Addr.add; split <;> rfl
theorem addr_add (a : Addr) (i j : Nat) : (a.add i).add j = a.add (i + j) := by
  unfold Addr.add
  by_cases hi : i = 0 <;> by_cases hj : j = 0 <;> simp [hi, hj, Nat.add_assoc]
/-- What the inner loop has behind j lines. -/
def inn (l : List Int) (lo hi : Nat) (out : List Int) (k j : Nat) : List Int := out.set k (most (((l.take hi).drop lo).take j) (rd out (k : Int)))
theorem inn_len (l : List Int) (lo hi : Nat) (out : List Int) (k j : Nat) : (inn l lo hi out k j).length = out.length := by unfold inn; simp
theorem inn_zero (l : List Int) (lo hi : Nat) (out : List Int) (k : Nat) (h : k < out.length) : inn l lo hi out k 0 = out := by
  unfold inn most
  rw [List.take_zero, List.foldl_nil, set_same _ _ h]
theorem inn_step (l : List Int) (lo hi : Nat) (out : List Int) (k j : Nat) (h1 : hi ≤ l.length) (h2 : j < hi - lo) (h3 : lo + j < l.length) (h4 : k < out.length) :
    (inn l lo hi out k j).set k (mx ((inn l lo hi out k j)[k]'(by rw [inn_len]; exact h4)) (mag l[lo + j])) = inn l lo hi out k (j + 1) := by
  unfold inn
  rw [List.set_set, List.getElem_set_self]
  congr 1
  have e : ((l.take hi).drop lo).take (j + 1) = ((l.take hi).drop lo).take j ++ [l[lo + j]] := by
    have hlen : j < ((l.take hi).drop lo).length := by rw [List.length_drop, List.length_take]; omega
    rw [List.take_succ_eq_append_getElem hlen]
    congr 2
    rw [List.getElem_drop, List.getElem_take]
  rw [e]
  unfold most
  rw [List.foldl_append]; rfl
theorem inn_all (l : List Int) (k : Nat) (h : edge (k + 1) ≤ l.length) (out : List Int) : inn l (edge k) (edge (k + 1)) out k (edge (k + 1) - edge k) = one l out k := by
  unfold inn one
  rw [List.take_of_length_le]
  rw [List.length_drop, List.length_take]; omega
attribute [local go_sem] max2_int min2_int max_two min_two
set_option maxHeartbeats 4000000 in
set_option maxRecDepth 100000 in
theorem Ceilings_yes (l : List Int) (hl : l.length = 512) (hi : ∀ x ∈ l, I32 x) (A : Option Addr) (c : Nat) (w : World) (hr : (Kd.int .i32).C w A l.length l) (hc : l.length ≤ c) :
    Calls Try.prog 75 #[.slice A l.length c] w fun e w' => ∃ g cap, e = .returned (.tuple #[.slice (some ⟨g, 0, none⟩) 21 cap, .int .i64 0]) ∧ w.heap.size ≤ g ∧ RowI w' 3 .i64 g cap (ceils l) ∧ Below w.heap.size w w' := by
  obtain ⟨ad, rfl, hx0⟩ := cell_C hr (i := 0) (by omega)
  have had : ad.block < w.heap.size := World.block_lt_of_cell? w _ hx0
  clear hx0
  have hm : ∀ w : World, (Instr.makeSlice 54 (.int .i64 21) (.int .i64 21)).run Try.prog w = .ok (.slice (some ⟨w.heap.size, 0, none⟩) 21 21) (w.alloc (.cells (madeCells #[.int .i64 0] 21) 3)) := fun w => run_make_row' 54 3 (.int .i64 0) 8 Try.underlying54 (by kernel_rfl) rfl .i64 .i64 21 (by omega) (by omega) w
  rw [hl] at hc ⊢
  have HR := Lib.hid hr
  have HI := Lib.hid hi
  have HL := Lib.hid hl
  clear hr hi hl
  go_enter Try.func75, Try.ntmps75
  go_wp2_with (go_at_call 85; refine (edges_calls _).mono ?_; rintro e w1 ⟨ge, ce, rfl, hge, hre, hb1⟩)
  have hlt := hre.lt
  have hsz := hb1.size
  obtain ⟨G, hG⟩ : ∃ G, w1.heap.size = G := ⟨_, rfl⟩
  have HG := Lib.hid hG
  have HE := Lib.hid (hre.alloc (.cells (madeCells #[.int .i64 0] 21) 3))
  have HO := Lib.hid (RowI.new w1 3 .i64 21 0 (by decide))
  have HB := Lib.hid ((hb1.alloc hsz (.cells (madeCells #[.int .i64 0] 21) 3)))
  rw [hG] at HO
  have hne : ge ≠ w1.heap.size := by omega
  rw [hG] at hne hlt hsz ⊢
  clear hre hb1 hG
  go_loopw [16] (fun i wr => ∃ k : Nat, k ≤ 21 ∧ i = .int .i64 k ∧ Hid (RowI wr 3 .i64 ge ce edges) ∧ Hid (RowI wr 3 .i64 G 21 (after l k)) ∧ Hid (Below w.heap.size w wr)) (fun i _ => 21 - (intOf i).toNat)
  case atStart => exact ⟨0, by omega, rfl, HE, HO, HB⟩
  case round =>
    clear HE HO HB
    obtain ⟨k, hk, rfl, HE, HO, HB⟩ := hrel
    by_cases hlt2 : k < 21
    · have e1 := edges_ok ⟨k, by omega⟩
      have e2 := edges_ok ⟨k + 1, by omega⟩
      have e3 := edges_lt ⟨k, hlt2⟩
      have c1 := HE.out.cell (i := k) (by show k < 22; omega)
      have c2 := HE.out.cell (i := k + 1) (by show k + 1 < 22; omega)
      rw [← rd_nat edges k (by show k < 22; omega), e1.1] at c1
      rw [← rd_nat edges (k + 1) (by show k + 1 < 22; omega), e2.1] at c2
      have h512 := e2.2
      have HLo : ∃ lo hi : Nat, Hid (edge k = lo) ∧ Hid (edge (k + 1) = hi) ∧ lo < hi ∧ hi ≤ 512 ∧ wr.cell? ⟨ge, k, none⟩ = some (.int .i64 (lo : Int)) ∧ wr.cell? ⟨ge, k + 1, none⟩ = some (.int .i64 (hi : Int)) := ⟨_, _, rfl, rfl, e3, h512, c1, c2⟩
      clear e1 e2 e3 c1 c2 h512
      obtain ⟨lo, hi, HLo, HHi, b1, b2, c1, c2⟩ := HLo
      have hcl : ¬ c = lo := by omega
      go_wp2_with fail
      go_quiet (fail)
      go_wp2_with fail
      go_loopw [31] (fun x wq => ∃ j : Nat, j ≤ hi - lo ∧ x = .int .i64 j ∧ Hid (RowI wq 3 .i64 ge ce edges) ∧ Hid (RowI wq 3 .i64 G 21 (inn l lo hi (after l k) k j)) ∧ Hid (Below w.heap.size w wq)) (fun x _ => (hi - lo) - (intOf x).toNat)
      case atStart => exact ⟨0, by omega, rfl, HE.out.drewN _, by rw [inn_zero _ _ _ _ _ (by rw [after_len]; exact hlt2)]; exact HO.out.drewN _, pw_below_drewN HB.out _⟩
      case round =>
        clear HE HO HB c1 c2
        obtain ⟨j, hj, rfl, HE, HO, HB⟩ := hrel
        by_cases hjl : j < hi - lo
        · have hli := inn_len l lo hi (after l k) k j
          rw [after_len] at hli
          have d1 := HO.out.cell (i := k) (by rw [hli]; exact hlt2)
          have f1 := HO.out.free k
          have hx : lo + j < l.length := by rw [HL.out]; omega
          obtain ⟨ad', ha', d2⟩ := cell_C HR.out hx
          cases ha'
          have hxi := HI.out _ (List.getElem_mem hx)
          rw [← HB.out.cell (p := ad.add (lo + j)) (by rw [addr_block]; exact had), ← addr_add] at d2
          have HN := Lib.hid (inn_step l lo hi (after l k) k j (by rw [HL.out]; omega) (by omega) hx (by rw [after_len]; exact hlt2))
          generalize l[lo + j] = x at *
          generalize (inn l lo hi (after l k) k j)[k]'(by rw [hli]; exact hlt2) = m at *
          clear hli
          go_wp2_with fail
          refine region_quiet_tail 14 (by kernel_rfl) (by kernel_rfl) ?_
          simp only [List.take_succ_cons, List.take_zero, List.drop_succ_cons, List.drop_zero]
          repeat (quiet_step ((go_at_call 89; exact Calls.quiet_of (len32_calls' _ hxi _))))
          refine wpQuiet_nil ?_
          rintro _ ⟨nq, rfl⟩
          go_wp2_with fail
          all_goals (
            first
            | (have hmx : mx m (mag x) = m := by unfold mx; split <;> omega)
            | (have hmx : mx m (mag x) = mag x := by unfold mx; split <;> omega)
            have HN2 := HN.out
            rw [hmx] at HN2
            refine ⟨⟨j + 1, by omega, by push_cast; rfl, (HE.out.drewN nq).other hne _, ?_, (pw_below_drewN HB.out nq).setCell hsz _⟩, by simp [intOf]; omega⟩
            rw [← HN2]; exact (HO.out.drewN nq).set k _)
        · have hje : j = hi - lo := by omega
          have hin := inn_all l k (by rw [HL.out, HHi.out]; exact b2) (after l k)
          rw [HLo.out, HHi.out] at hin
          rw [hje, hin] at HO
          go_wp2_with fail
          exact ⟨⟨k + 1, by omega, by push_cast; rfl, HE, HO, HB⟩, by simp [intOf]; omega⟩
    · obtain rfl : k = 21 := by omega
      go_wp2_with fail
      go_ret2
      rw [← after_all]
      exact ⟨G, 21, rfl, hsz, HO.out, HB.out⟩
theorem Ceilings_no (l : List Int) (hl : l.length ≠ 512) (A : Option Addr) (c : Nat) (w : World) :
    Calls Try.prog 75 #[.slice A l.length c] w fun e w' => e = .returned (.tuple #[.slice none 0 0, .int .i64 1]) ∧ w' = w := by
  obtain ⟨n, hn⟩ : ∃ n, l.length = n := ⟨_, rfl⟩
  rw [hn] at hl ⊢
  go_enter Try.func75, Try.ntmps75
  go_wp2
  go_ret2
  exact ⟨rfl, rfl⟩
/-- What energy.Ceilings answers. -/
instance (x : Int) : Decidable (I32 x) := inferInstanceAs (Decidable (_ ∧ _))
def fC (l : List Int) : Option (List Int × Int) := if l.length = 512 then (if ∀ x ∈ l, I32 x then some (ceils l, 0) else none) else some ([], 1)
theorem fC_calls (A : Option Addr) (c : Nat) (l : List Int) (r1 : List Int) (r2 : Int) (w : World) (hr : (Kd.int .i32).C w A l.length l) (hc : l.length ≤ c) (h : fC l = some (r1, r2)) :
    Calls Try.prog 75 #[.slice A l.length c] w fun e w' => ∃ v0_ : Value, e = .returned (.tuple #[v0_, .int .i64 r2]) ∧ Kd.R (Kd.int .i64) 3 w' w.heap.size (fun _ => True) v0_ r1 ∧ Below w.heap.size w w' := by
  unfold fC at h
  split at h
  · rename_i hl
    split at h
    · rename_i hi
      obtain ⟨rfl, rfl⟩ := Prod.mk.inj (Option.some.inj h)
      refine (Ceilings_yes l hl hi A c w hr hc).mono ?_
      rintro e w' ⟨g, cap, rfl, hg, hrow, hb⟩
      refine ⟨_, rfl, ?_, hb⟩
      have := R_of_rowI hrow hg
      rwa [ceils_len] at this
    · cases h
  · rename_i hl
    cases h
    refine (Ceilings_no l hl A c w).mono ?_
    rintro e w' ⟨rfl, rfl⟩
    refine ⟨_, rfl, ?_, Below.refl _ _⟩
    exact Kd.R_of_own (enc := Value.int .i64) (h1 := fun _ => rfl) ⟨rfl, .inl ⟨rfl, rfl⟩⟩ (fun _ _ => trivial)
end Go.Proofs.Ytlbjoflmfboeeaa.Ceil

/-
  Words: slices of whole numbers that own their block, and grow one by one. Plain theorems; no condition.
-/
set_option linter.unusedVariables false
namespace Go.Proofs.Ytlbjoflmfboeeaa
open Go.RowKit

theorem add_nought (a : Addr) : a.add 0 = a := by
  unfold Addr.add
  split
  · rename_i h; cases a; simp_all
  · rename_i h; cases a; simp_all
/-- v is a slice of these numbers at the head of a block of its own, or nil. -/
def Sl (w : World) (e : TypeId) (k : IntKind) (v : Value) (xs : List Int) : Prop :=
  (v = .slice none 0 0 ∧ xs = []) ∨ ∃ g cap, v = .slice (some ⟨g, 0, none⟩) xs.length cap ∧ RowI w e k g cap xs
section
variable {w w' : World} {e : TypeId} {k : IntKind} {v : Value} {xs : List Int}
theorem Sl.nil (w : World) (e : TypeId) (k : IntKind) : Sl w e k (.slice none 0 0) [] := .inl ⟨rfl, rfl⟩
theorem Sl.row {g cap : Nat} (h : RowI w e k g cap xs) : Sl w e k (.slice (some ⟨g, 0, none⟩) xs.length cap) xs := .inr ⟨g, cap, rfl, h⟩
theorem Sl.lt (h : Sl w e k v xs) {g : Nat} (hg : v.ownBlock = some g) : g < w.heap.size := by
  rcases h with ⟨rfl, _⟩ | ⟨g', cap, rfl, h⟩
  · cases hg
  · injection hg with e; subst e; exact h.lt
theorem Sl.of_same (h : Sl w e k v xs) (hs : ∀ g, v.ownBlock = some g → w'.heap[g]? = w.heap[g]?) : Sl w' e k v xs := by
  rcases h with h | ⟨g, cap, rfl, h⟩
  · exact .inl h
  · exact .inr ⟨g, cap, rfl, h.of_same (hs g rfl)⟩
theorem Sl.drew (h : Sl w e k v xs) : Sl w.drew e k v xs := h
theorem Sl.drewN (h : Sl w e k v xs) (n : Nat) : Sl (w.drewN n) e k v xs := h
theorem Sl.alloc (h : Sl w e k v xs) (o : Obj) : Sl (w.alloc o) e k v xs := h.of_same fun g hg => Below.heap_alloc w o g (h.lt hg)
theorem Sl.other (h : Sl w e k v xs) {a : Addr} (hne : v.ownBlock ≠ some a.block) (u : Value) : Sl (w.setCell a u) e k v xs :=
  h.of_same fun g hg => Below.heap_setCell w a u g (by rintro rfl; exact hne hg)
theorem Sl.only {S : Nat → Prop} (h : Sl w e k v xs) (o : Only S w w') (hn : ∀ g, v.ownBlock = some g → ¬ S g) : Sl w' e k v xs := h.of_same fun g hg => o.block g (h.lt hg) (hn g hg)
theorem Sl.below {B : Nat} (h : Sl w e k v xs) (hb : Below B w w') (hg : ∀ g, v.ownBlock = some g → g < B) : Sl w' e k v xs := h.of_same fun g hb' => hb.block g (hg g hb')
theorem Sl.form (h : Sl w e k v xs) : ∃ A cap, v = .slice A xs.length cap ∧ xs.length ≤ cap := by
  rcases h with ⟨rfl, rfl⟩ | ⟨g, cap, rfl, h⟩
  · exact ⟨none, 0, rfl, Nat.le_refl _⟩
  · exact ⟨_, cap, rfl, h.len.1⟩
theorem Sl.owns (h : Sl w e k v xs) : w.ownsRow 0 e 1 v xs.length (xs.map (Value.int k)) := by
  refine ⟨by simp, ?_⟩
  rcases h with ⟨rfl, rfl⟩ | ⟨g, cap, rfl, cs, hb, h1, h2, h3, h4⟩
  · exact .inl ⟨rfl, rfl⟩
  · refine .inr ⟨g, cap, cs, rfl, Nat.zero_le _, hb, h1, h2, by omega, ?_⟩
    apply List.ext_getElem?
    intro i
    rw [List.getElem?_take]
    by_cases hi : i < xs.length
    · rw [if_pos (by omega), Array.getElem?_toList, h4 i hi, List.getElem?_map, List.getElem?_eq_getElem hi]; rfl
    · rw [if_neg (by omega), List.getElem?_eq_none (by simpa using hi)]
theorem RowI.of_owns {g cap : Nat} (h : w.ownsRow 0 e 1 (.slice (some ⟨g, 0, none⟩) xs.length cap) xs.length (xs.map (Value.int k))) : RowI w e k g cap xs := by
  rcases h.2 with ⟨h1, _⟩ | ⟨g', cap', cur, h1, _, hb, h2, h3, h4, h5⟩
  · cases h1
  · injection h1 with e1 _ e3
    injection e1 with e1
    injection e1 with e1
    subst e1 e3
    refine ⟨cur, hb, h2, h3, by omega, fun i hi => ?_⟩
    have e1 : (cur.toList.take (xs.length * 1))[i]? = some (.int k xs[i]) := by rw [h5]; simp [hi]
    rw [List.getElem?_take, if_pos (by omega)] at e1
    simpa using e1
/-- Where one more is appended. -/
structure Pushed (w w' : World) (e : TypeId) (k : IntKind) (v : Value) (g cap : Nat) (ys : List Int) (H : Nat) : Prop where
  row : RowI w' e k g cap ys
  grown : w.grownBy w' v.ownBlock
  at_ : v.ownBlock = some g ∨ g = H
theorem Pushed.lt {g cap H : Nat} {ys : List Int} (h : Pushed w w' e k v g cap ys H) : g < w'.heap.size := h.row.lt
theorem Pushed.size {g cap H : Nat} {ys : List Int} (h : Pushed w w' e k v g cap ys H) : w.heap.size ≤ w'.heap.size := h.grown.size
theorem Pushed.block {g cap H : Nat} {ys : List Int} (h : Pushed w w' e k v g cap ys H) {i : Nat} (hi : i < w.heap.size) (hn : v.ownBlock ≠ some i) : w'.heap[i]? = w.heap[i]? := h.grown.block i hi (fun e => hn e.symm)
theorem Pushed.only {g cap H : Nat} {ys : List Int} (h : Pushed w w' e k v g cap ys H) : Only (fun i => v.ownBlock = some i) w w' :=
  ⟨h.grown.os, h.grown.tape, h.grown.output, h.grown.size, fun i hi hn => h.grown.block i hi (fun e => hn e.symm)⟩
end
section
variable {P : Program} {w : World}
theorem wpList_push {ops : Array Oper} {rest : List Oper} {o : Oper} {a : Act} {Q : Exit → Act → World → Prop} (s x : Operand) (t e : TypeId) (k : IntKind) (z : Int) (bytes : Nat) (hgd : o.guard = none)
    (ho : o.op = .call { callee := .builtin .append, args := #[s, x], argTypes := #[t, t] })
    (ht : P.underlying t = some (.slice e)) (hinfo : (P.info? e).map (fun i => (i.zero, i.size, i.bytes)) = some (some (.int k z), 1, bytes))
    (v : Value) (xs : List Int) (n : Nat) (y : Int) (ad : Addr) (H : Nat) (hs : a.eval s = v) (hx : a.eval x = .slice (some ad) 1 1) (hsl : Sl w e k v xs) (hn : xs.length = n) (hc : w.cell? ad = some (.int k y)) (hH : w.heap.size = H)
    (hb : (n + 1) * bytes ≤ 140737488355328) (hm : n < 140737488355328)
    (h : ∀ g cap w', Pushed w w' e k v g cap (xs ++ [y]) H → wpList P ops Q rest (a.put o.dst (.slice (some ⟨g, 0, none⟩) (n + 1) cap)) w') : wpList P ops Q (o :: rest) a w := by
  obtain ⟨i0, hi, hzz⟩ := Option.map_eq_some_iff.1 hinfo
  simp only [Prod.mk.injEq] at hzz
  obtain ⟨hz0, hz1, hz2⟩ := hzz
  subst hn
  refine wpList_append_lies (w := w) hgd s x t ho 0 e i0 (.int k z) 1 bytes ht hi hz0 hz1 hz2 rfl (by decide) v xs.length (xs.map (Value.int k)) hs hsl.owns ad 1 1 [.int k y] hx (by simp) ?_ (by simp [Value.oneCell']) (by decide) (by simp only [maxLen]; omega) hb (Nat.zero_le _) H hH ?_
  · intro j u hj
    match j, hj with
    | 0, hj => simp at hj; subst hj; rw [add_nought]; exact hc
    | j + 1, hj => simp at hj
  · intro g cap w' h1 h2 h3 h4
    refine h g cap w' ⟨RowI.of_owns ?_, h2, h3⟩
    have e1 : (xs ++ [y]).length = xs.length + 1 := by simp
    have e2 : (xs ++ [y]).map (Value.int k) = xs.map (Value.int k) ++ [.int k y] := by simp
    rw [e1, e2]; exact h1
theorem step_push {ops : Array Oper} {o : Oper} {a : Act} {K : Act → World → Prop} {Q : Exit → Act → World → Prop} {E : Prop} (s x : Operand) (t e : TypeId) (k : IntKind) (z : Int) (bytes : Nat) (hgd : o.guard = none)
    (ho : o.op = .call { callee := .builtin .append, args := #[s, x], argTypes := #[t, t] })
    (ht : P.underlying t = some (.slice e)) (hinfo : (P.info? e).map (fun i => (i.zero, i.size, i.bytes)) = some (some (.int k z), 1, bytes))
    (v : Value) (xs : List Int) (n : Nat) (y : Int) (ad : Addr) (H : Nat) (hs : a.eval s = v) (hx : a.eval x = .slice (some ad) 1 1) (hsl : Sl w e k v xs) (hn : xs.length = n) (hc : w.cell? ad = some (.int k y)) (hH : w.heap.size = H)
    (hb : (n + 1) * bytes ≤ 140737488355328) (hm : n < 140737488355328)
    (h : ∀ g cap w', Pushed w w' e k v g cap (xs ++ [y]) H → K (a.put o.dst (.slice (some ⟨g, 0, none⟩) (n + 1) cap)) w') :
    if Region.wanted o (yielded ops a.tmps) = true then Oper.wp P o a w K Q else E := by
  obtain ⟨i0, hi, hzz⟩ := Option.map_eq_some_iff.1 hinfo
  simp only [Prod.mk.injEq] at hzz
  obtain ⟨hz0, hz1, hz2⟩ := hzz
  subst hn
  refine step_append_lies (w := w) hgd s x t ho 0 e i0 (.int k z) 1 bytes ht hi hz0 hz1 hz2 rfl (by decide) v xs.length (xs.map (Value.int k)) hs hsl.owns ad 1 1 [.int k y] hx (by simp) ?_ (by simp [Value.oneCell']) (by decide) (by simp only [maxLen]; omega) hb (Nat.zero_le _) H hH ?_
  · intro j u hj
    match j, hj with
    | 0, hj => simp at hj; subst hj; rw [add_nought]; exact hc
    | j + 1, hj => simp at hj
  · intro g cap w' h1 h2 h3 h4
    refine h g cap w' ⟨RowI.of_owns ?_, h2, h3⟩
    have e1 : (xs ++ [y]).length = xs.length + 1 := by simp
    have e2 : (xs ++ [y]).map (Value.int k) = xs.map (Value.int k) ++ [.int k y] := by simp
    rw [e1, e2]; exact h1
/-- u is a slice of these numbers, wherever they lie. -/
def Src (w : World) (k : IntKind) (u : Value) (ys : List Int) : Prop :=
  ∃ A c, u = .slice A ys.length c ∧ (0 < ys.length → ∃ ad, A = some ad ∧ ∀ j (h : j < ys.length), w.cell? (ad.add j) = some (.int k ys[j]))
theorem Src.of_sl {w : World} {e : TypeId} {k : IntKind} {v : Value} {xs : List Int} (h : Sl w e k v xs) : Src w k v xs := by
  rcases h with ⟨rfl, rfl⟩ | ⟨g, cap, rfl, h⟩
  · exact ⟨none, 0, rfl, fun h => by simp at h⟩
  · refine ⟨_, cap, rfl, fun _ => ⟨_, rfl, fun j hj => ?_⟩⟩
    have e1 : (Addr.add ⟨g, 0, none⟩ j) = ⟨g, j, none⟩ := by unfold Addr.add; split <;> simp_all
    rw [e1]; exact h.cell hj
theorem Src.of_C {w : World} {k : IntKind} {A : Option Addr} {c : Nat} {ys : List Int} (h : (Go.Proofs.YtlbjoflmfboeeaaW.PrintWords.Kd.int k).C w A ys.length ys) : Src w k (.slice A ys.length c) ys := by
  refine ⟨A, c, rfl, fun h0 => ?_⟩
  obtain ⟨ad, e, _⟩ := cell_C h h0
  subst e
  refine ⟨ad, rfl, fun j hj => ?_⟩
  obtain ⟨ad', e', hc⟩ := cell_C h hj
  injection e' with e'
  subst e'
  exact hc
theorem Src.same {w w' : World} {k : IntKind} {u : Value} {ys : List Int} (h : Src w k u ys) (hs : ∀ g, u.ownBlock = some g → 0 < ys.length → w'.heap[g]? = w.heap[g]?) : Src w' k u ys := by
  obtain ⟨A, c, rfl, h⟩ := h
  refine ⟨A, c, rfl, fun h0 => ?_⟩
  obtain ⟨ad, rfl, hc⟩ := h h0
  refine ⟨ad, rfl, fun j hj => ?_⟩
  rw [← hc j hj]
  exact World.cell?_of_block (by rw [add_block]; exact hs ad.block rfl h0)
theorem Src.drew {w : World} {k : IntKind} {u : Value} {ys : List Int} (h : Src w k u ys) : Src w.drew k u ys := h
theorem Src.lt {w : World} {k : IntKind} {u : Value} {ys : List Int} (h : Src w k u ys) {g : Nat} (hg : u.ownBlock = some g) (h0 : 0 < ys.length) : g < w.heap.size := by
  obtain ⟨A, c, rfl, h⟩ := h
  obtain ⟨ad, rfl, hc⟩ := h h0
  have e : ad.block = g := Option.some.inj hg
  have := World.block_lt_of_cell? w _ (hc 0 h0)
  rw [add_block, e] at this
  exact this
theorem Src.below {w w' : World} {k : IntKind} {u : Value} {ys : List Int} (h : Src w k u ys) (b : Below w.heap.size w w') : Src w' k u ys := h.same fun g hg h0 => b.block g (h.lt hg h0)
/-- Where many are appended. -/
structure Added (w w' : World) (e : TypeId) (k : IntKind) (v v' : Value) (ys : List Int) (H : Nat) : Prop where
  sl : Sl w' e k v' ys
  grown : w.grownBy w' v.ownBlock
  at_ : v'.ownBlock = v.ownBlock ∨ v'.ownBlock = some H
theorem Added.only {w w' : World} {e : TypeId} {k : IntKind} {v v' : Value} {ys : List Int} {H : Nat} (h : Added w w' e k v v' ys H) : Only (fun i => v.ownBlock = some i) w w' :=
  ⟨h.grown.os, h.grown.tape, h.grown.output, h.grown.size, fun i hi hn => h.grown.block i hi (fun e => hn e.symm)⟩
theorem Sl.of_owns {w : World} {e : TypeId} {k : IntKind} {v : Value} {xs : List Int} {n : Nat} (h : w.ownsRow 0 e 1 v n (xs.map (Value.int k))) : Sl w e k v xs := by
  have hn : xs.length = n := by have := h.1; simpa using this
  subst hn
  rcases h.2 with ⟨rfl, h0⟩ | ⟨g, cap, cur, rfl, r⟩
  · exact .inl ⟨rfl, List.eq_nil_of_length_eq_zero h0⟩
  · exact Sl.row (RowI.of_owns h)
theorem run_add (t ty e : TypeId) (k : IntKind) (z : Int) (bytes : Nat) (ht : P.underlying t = some (.slice e)) (hinfo : (P.info? e).map (fun i => (i.zero, i.size, i.bytes)) = some (some (.int k z), 1, bytes))
    (v u : Value) (xs ys : List Int) (hsl : Sl w e k v xs) (hx : Src w k u ys) (hb : (xs.length + ys.length) * bytes ≤ 140737488355328) (hm : xs.length + ys.length ≤ 140737488355328) :
    ∃ v' w', (Builtin.append_ #[t, t] ty #[v, u]).run P w = .ok v' w' ∧ Added w w' e k v v' (xs ++ ys) w.heap.size := by
  obtain ⟨i0, hi, hzz⟩ := Option.map_eq_some_iff.1 hinfo
  simp only [Prod.mk.injEq] at hzz
  obtain ⟨hz0, hz1, hz2⟩ := hzz
  obtain ⟨A, c, rfl, hy⟩ := hx
  by_cases h0 : 0 < ys.length
  · obtain ⟨ad, rfl, hc⟩ := hy h0
    obtain ⟨v', w', h1, h2, h3, _, h5⟩ := run_append_own_at (P := P) w 0 t ty e i0 (.int k z) 1 bytes ht hi hz0 hz1 hz2 rfl (by decide) v xs.length (xs.map (Value.int k)) hsl.owns ad ys.length c (ys.map (Value.int k)) (by simp) (fun j q hj => by
      rw [List.getElem?_map] at hj
      have hjl : j < ys.length := by
        rcases Nat.lt_or_ge j ys.length with h | h
        · exact h
        · rw [List.getElem?_eq_none h] at hj; cases hj
      rw [List.getElem?_eq_getElem hjl] at hj
      rw [hc j hjl]; exact hj) (fun q hq => by obtain ⟨y, _, rfl⟩ := List.mem_map.1 hq; rfl) (by simp only [maxLen]; omega) hb (Nat.zero_le _)
    refine ⟨v', w', h1, ⟨Sl.of_owns (n := xs.length + ys.length) (by rw [List.map_append]; exact h2), h3, h5⟩⟩
  · have hn : ys = [] := List.eq_nil_of_length_eq_zero (by omega)
    subst hn
    rw [List.append_nil]
    have refl : w.grownBy w v.ownBlock := ⟨rfl, rfl, rfl, Nat.le_refl _, fun _ _ _ => rfl⟩
    cases A with
    | none =>
      refine ⟨v, w, ?_, ⟨hsl, refl, .inl rfl⟩⟩
      rcases hsl with ⟨rfl, rfl⟩ | ⟨g, cap, rfl, h⟩
      · simp [Builtin.append_, run_underlying ht, sizeOf, typeInfo, hi, Builtin.lenOf, Builtin.firstCells]
      · simp [Builtin.append_, run_underlying ht, sizeOf, typeInfo, hi, Builtin.lenOf, Builtin.firstCells, h.len.1, storeCells]
    | some ad =>
      obtain ⟨v', w', h1, h2, h3, _, h5⟩ := run_append_own_at (P := P) w 0 t ty e i0 (.int k z) 1 bytes ht hi hz0 hz1 hz2 rfl (by decide) v xs.length (xs.map (Value.int k)) hsl.owns ad 0 c [] (by simp) (fun j q hj => by simp at hj) (fun q hq => by cases hq) (by simp only [maxLen]; omega) (by simpa using hb) (Nat.zero_le _)
      rw [List.append_nil] at h2
      exact ⟨v', w', h1, ⟨Sl.of_owns h2, h3, h5⟩⟩
theorem wpList_add {ops : Array Oper} {rest : List Oper} {o : Oper} {a : Act} {Q : Exit → Act → World → Prop} (s x : Operand) (t e : TypeId) (k : IntKind) (z : Int) (bytes : Nat) (hgd : o.guard = none)
    (ho : o.op = .call { callee := .builtin .append, args := #[s, x], argTypes := #[t, t] })
    (ht : P.underlying t = some (.slice e)) (hinfo : (P.info? e).map (fun i => (i.zero, i.size, i.bytes)) = some (some (.int k z), 1, bytes))
    (v u : Value) (xs ys : List Int) (hs : a.eval s = v) (hx : a.eval x = u) (hsl : Sl w e k v xs) (hsrc : Src w k u ys) (hb : (xs.length + ys.length) * bytes ≤ 140737488355328) (hm : xs.length + ys.length ≤ 140737488355328)
    (h : ∀ v' w', Added w w' e k v v' (xs ++ ys) w.heap.size → wpList P ops Q rest (a.put o.dst v') w') : wpList P ops Q (o :: rest) a w := by
  refine wpList_plain hgd fun K hK => ?_
  obtain ⟨v', w', hr, h2⟩ := run_add (P := P) (w := w) t o.type e k z bytes ht hinfo v u xs ys hsl hsrc hb hm
  unfold Oper.wp execOp
  simp only [ho, resolve, invoke, builtin, Sem.run_bind, Sem.run_pure, Result.andThen_ok, List.map_toArray, List.map_cons, List.map_nil, hs, hx, hr]
  exact hK _ _ (h v' w' h2)
theorem step_add {ops : Array Oper} {o : Oper} {a : Act} {K : Act → World → Prop} {Q : Exit → Act → World → Prop} {E : Prop} (s x : Operand) (t e : TypeId) (k : IntKind) (z : Int) (bytes : Nat) (hgd : o.guard = none)
    (ho : o.op = .call { callee := .builtin .append, args := #[s, x], argTypes := #[t, t] })
    (ht : P.underlying t = some (.slice e)) (hinfo : (P.info? e).map (fun i => (i.zero, i.size, i.bytes)) = some (some (.int k z), 1, bytes))
    (v u : Value) (xs ys : List Int) (hs : a.eval s = v) (hx : a.eval x = u) (hsl : Sl w e k v xs) (hsrc : Src w k u ys) (hb : (xs.length + ys.length) * bytes ≤ 140737488355328) (hm : xs.length + ys.length ≤ 140737488355328)
    (h : ∀ v' w', Added w w' e k v v' (xs ++ ys) w.heap.size → K (a.put o.dst v') w') :
    if Region.wanted o (yielded ops a.tmps) = true then Oper.wp P o a w K Q else E := by
  have hw : Region.wanted o (yielded ops a.tmps) = true := by simp [Region.wanted, hgd]
  rw [if_pos hw]
  obtain ⟨v', w', hr, h2⟩ := run_add (P := P) (w := w) t o.type e k z bytes ht hinfo v u xs ys hsl hsrc hb hm
  unfold Oper.wp execOp
  simp only [ho, resolve, invoke, builtin, Sem.run_bind, Sem.run_pure, Result.andThen_ok, List.map_toArray, List.map_cons, List.map_nil, hs, hx, hr]
  exact h v' w' h2
end
theorem RowI.take {w : World} {e : TypeId} {k : IntKind} {g cap : Nat} {xs : List Int} (h : RowI w e k g cap xs) (n : Nat) : RowI w e k g cap (xs.take n) := by
  obtain ⟨cs, h1, h2, h3, h4, h5⟩ := h
  refine ⟨cs, h1, by rw [List.length_take]; omega, h3, h4, fun i hi => ?_⟩
  rw [List.length_take] at hi
  rw [h5 i (by omega), List.getElem_take]
end Go.Proofs.Ytlbjoflmfboeeaa

/-
  Words: slices of numbers that come in as arguments. Plain theorems; no condition.
-/
set_option linter.unusedVariables false
namespace Go.Proofs.Ytlbjoflmfboeeaa
open Go.RowKit

/-- A slice of numbers as it comes in: cap cells, of which the first len are told. -/
def IsRow (k : IntKind) (w : World) (a : Option Addr) (len cap : Nat) (zs : List Int) : Prop :=
  (a = none ∧ len = 0 ∧ cap = 0 ∧ zs = []) ∨
  ∃ x, a = some x ∧ len ≤ cap ∧ cap ≤ maxLen ∧ zs.length = cap ∧ (∀ i, i < zs.length → w.cell? (x.add i) = some (.int k (zs.getD i 0))) ∧ ∀ n ∈ zs, (Lit.int k n).wf = true
theorem IsRow.take_len {k : IntKind} {w : World} {a : Option Addr} {len cap : Nat} {zs : List Int} (h : IsRow k w a len cap zs) : (zs.take len).length = len := by
  rw [List.length_take]
  rcases h with ⟨_, rfl, _, rfl⟩ | ⟨x, _, h1, _, h2, _⟩
  · rfl
  · omega
theorem IsRow.src {k : IntKind} {w : World} {a : Option Addr} {len cap : Nat} {zs : List Int} (h : IsRow k w a len cap zs) : Src w k (.slice a len cap) (zs.take len) := by
  have hl := h.take_len
  rcases h with ⟨rfl, rfl, rfl, rfl⟩ | ⟨x, rfl, h1, _, h2, h3, _⟩
  · exact ⟨none, 0, rfl, fun h => by simp at h⟩
  · refine ⟨some x, cap, by rw [hl], fun _ => ⟨x, rfl, fun j hj => ?_⟩⟩
    rw [h3 j (by omega)]
    congr 2
    rw [List.getElem_take, List.getD_eq_getElem?_getD, List.getElem?_eq_getElem (by omega)]; rfl
theorem IsRow.wf {k : IntKind} {w : World} {a : Option Addr} {len cap : Nat} {zs : List Int} (h : IsRow k w a len cap zs) : ∀ n ∈ zs.take len, (Lit.int k n).wf = true := by
  intro n hn
  have hn := List.mem_of_mem_take hn
  rcases h with ⟨_, _, _, rfl⟩ | ⟨x, _, _, _, _, _, h⟩
  · cases hn
  · exact h n hn
theorem wf_u8 {n : Int} (h : (Lit.int .u8 n).wf = true) : 0 ≤ n ∧ n ≤ 255 := by
  simp only [Lit.wf, Bool.and_eq_true, decide_eq_true_eq] at h
  have e1 : IntKind.min .u8 = 0 := by decide
  have e2 : IntKind.max .u8 = 255 := by decide
  rw [e1, e2] at h
  exact h
/-- What lies at the j-th place of a slice that came in. -/
theorem Src.cell {w : World} {k : IntKind} {A : Option Addr} {n c : Nat} {ys : List Int} (h : Src w k (.slice A n c) ys) {j : Nat} (hj : j < ys.length) : ∃ ad, A = some ad ∧ w.cell? (ad.add j) = some (.int k ys[j]) := by
  obtain ⟨A', c', e, h⟩ := h
  injection e with e1 e2 e3
  subst e1
  obtain ⟨ad, e4, h⟩ := h (by omega)
  exact ⟨ad, e4, h j hj⟩
end Go.Proofs.Ytlbjoflmfboeeaa

/-
  The program's model, and the document's: what they hold, and the walks of their functions; no condition but those told.
-/
set_option linter.unusedVariables false
set_option linter.unusedSimpArgs false
namespace Go.Proofs.Ytlbjoflmfboeeaa.Mdl
open Go.RowKit Go.Proofs.Ytlbjoflmfboeeaa Go.Proofs.YtlbjoflmfboeeaaW.PrintWords

/-- How often all come. -/
def lsum (L : List Int) : Int := L.sum
theorem lsum_append (a b : List Int) : lsum (a ++ b) = lsum a + lsum b := by unfold lsum; exact List.sum_append
theorem lsum_nil : lsum [] = 0 := rfl
theorem lsum_one (x : Int) : lsum [x] = x := by simp [lsum]
theorem lsum_take_succ (L : List Int) (k : Nat) (h : k < L.length) : lsum (L.take (k + 1)) = lsum (L.take k) + L[k] := by
  rw [List.take_succ_eq_append_getElem h, lsum_append, lsum_one]
theorem lsum_nonneg (L : List Int) (h : ∀ x ∈ L, 0 ≤ x) : 0 ≤ lsum L := by
  induction L with
  | nil => exact Int.le_refl 0
  | cons a l ih =>
    have h1 := ih fun x hx => h x (List.mem_cons_of_mem _ hx)
    have h2 := h a (List.mem_cons_self ..)
    have : lsum (a :: l) = a + lsum l := by simp [lsum]
    omega
theorem lsum_take_le (L : List Int) (h : ∀ x ∈ L, 0 ≤ x) (k : Nat) : 0 ≤ lsum (L.take k) ∧ lsum (L.take k) ≤ lsum L := by
  have h1 := lsum_nonneg (L.take k) fun x hx => h x (List.mem_of_mem_take hx)
  have h2 := lsum_nonneg (L.drop k) fun x hx => h x (List.mem_of_mem_drop hx)
  have h3 := lsum_append (L.take k) (L.drop k)
  rw [List.take_append_drop] at h3
  omega
/-- A list of how often symbols come, as it may be. -/
structure Good (L : List Int) : Prop where
  len1 : 1 ≤ L.length
  len2 : L.length ≤ 64
  pos : ∀ x ∈ L, 1 ≤ x
  all : lsum L ≤ 8192
theorem Good.at {L : List Int} (h : Good L) {k : Nat} (hk : k < L.length) : 1 ≤ L[k] ∧ lsum (L.take k) + L[k] ≤ lsum L ∧ 0 ≤ lsum (L.take k) := by
  have h0 : ∀ x ∈ L, 0 ≤ x := fun x hx => by have := h.pos x hx; omega
  have h1 := h.pos _ (List.getElem_mem hk)
  have h2 := lsum_take_le L h0 (k + 1)
  have h3 := lsum_take_le L h0 k
  rw [lsum_take_succ L k hk] at h2
  omega
theorem Good.nonneg {L : List Int} (h : Good L) : ∀ x ∈ L, 0 ≤ x := fun x hx => by have := h.pos x hx; omega
theorem Good.sum1 {L : List Int} (h : Good L) : 1 ≤ lsum L := by
  have := h.at (k := 0) h.len1
  omega
/-- A symbol came. -/
def bump (L : List Int) (s : Nat) : List Int := L.set s (L.getD s 0 + 32)
def halve (L : List Int) : List Int := L.map (fun x => (x + 1) / 2)
def learn (L : List Int) (s : Nat) : List Int := if lsum (bump L s) > 8192 then halve (bump L s) else bump L s
/-- What a model becomes. -/
def next (fixed : Bool) (L : List Int) (s : Nat) : List Int := if fixed = true then L else learn L s
theorem bump_len (L : List Int) (s : Nat) : (bump L s).length = L.length := by simp [bump]
theorem learn_len (L : List Int) (s : Nat) : (learn L s).length = L.length := by unfold learn; split <;> simp [halve, bump_len]
theorem next_len (f : Bool) (L : List Int) (s : Nat) : (next f L s).length = L.length := by unfold next; split; rfl; exact learn_len L s
theorem lsum_set (L : List Int) (s : Nat) (h : s < L.length) (v : Int) : lsum (L.set s v) = lsum L - L[s] + v := by
  induction L generalizing s with
  | nil => simp at h
  | cons a l ih =>
    cases s with
    | zero => simp [lsum]; omega
    | succ s =>
      have := ih s (by simpa using h)
      simp [lsum] at this ⊢
      omega
theorem lsum_bump (L : List Int) (s : Nat) (h : s < L.length) : lsum (bump L s) = lsum L + 32 := by
  unfold bump
  rw [lsum_set L s h, List.getD_eq_getElem?_getD, List.getElem?_eq_getElem h]
  simp; omega
theorem bump_pos (L : List Int) (s : Nat) (h : ∀ x ∈ L, 1 ≤ x) (hs : s < L.length) : ∀ x ∈ bump L s, 1 ≤ x := by
  intro x hx
  unfold bump at hx
  rcases List.mem_or_eq_of_mem_set hx with h1 | h1
  · exact h x h1
  · have := h _ (List.getElem_mem hs)
    rw [List.getD_eq_getElem?_getD, List.getElem?_eq_getElem hs] at h1
    simp at h1; omega
theorem halve_pos (L : List Int) (h : ∀ x ∈ L, 1 ≤ x) : ∀ x ∈ halve L, 1 ≤ x := by
  intro x hx
  obtain ⟨y, hy, rfl⟩ := List.mem_map.1 hx
  have := h y hy
  omega
theorem halve_sum (L : List Int) (h : ∀ x ∈ L, 1 ≤ x) : lsum (halve L) ≥ 0 ∧ 2 * lsum (halve L) ≤ lsum L + L.length := by
  induction L with
  | nil => simp [halve, lsum]
  | cons a l ih =>
    have h1 := ih fun x hx => h x (List.mem_cons_of_mem _ hx)
    have h2 := h a (List.mem_cons_self ..)
    have e1 : lsum (a :: l) = a + lsum l := by simp [lsum]
    have e2 : lsum (halve (a :: l)) = (a + 1) / 2 + lsum (halve l) := by simp [lsum, halve]
    rw [e1, e2]
    simp only [List.length_cons]
    omega
theorem Good.next {L : List Int} (h : Good L) (f : Bool) (s : Nat) (hs : s < L.length) : Good (next f L s) := by
  unfold Mdl.next
  split
  · exact h
  · refine ⟨by rw [learn_len]; exact h.len1, by rw [learn_len]; exact h.len2, ?_, ?_⟩
    · unfold learn
      split
      · exact halve_pos _ (bump_pos L s h.pos hs)
      · exact bump_pos L s h.pos hs
    · unfold learn
      have h1 := lsum_bump L s hs
      split
      · have := halve_sum _ (bump_pos L s h.pos hs)
        have h2 := h.len2
        have h3 := h.all
        rw [bump_len] at this
        omega
      · omega
/-- The first k of A, then B's. -/
def mix (A B : List Int) (k : Nat) : List Int := A.take k ++ B.drop k
theorem mix_len (A B : List Int) (k : Nat) (h : A.length = B.length) (hk : k ≤ A.length) : (mix A B k).length = B.length := by
  unfold mix; rw [List.length_append, List.length_take, List.length_drop]; omega
theorem mix_zero (A B : List Int) : mix A B 0 = B := by simp [mix]
theorem mix_all (A B : List Int) (h : A.length = B.length) : mix A B B.length = A := by
  unfold mix; rw [List.drop_length, List.append_nil, ← h, List.take_length]
theorem mix_get (A B : List Int) (k : Nat) (h : A.length = B.length) (hk : k < B.length) {h' : k < (mix A B k).length} : (mix A B k)[k] = B[k] := by
  have e : (mix A B k)[k]? = B[k]? := by
    unfold mix
    rw [List.getElem?_append_right (by rw [List.length_take]; omega), List.length_take, List.getElem?_drop, Nat.min_eq_left (by omega)]
    congr 1; omega
  rw [List.getElem?_eq_getElem h', List.getElem?_eq_getElem hk] at e
  exact Option.some.inj e
theorem mix_set (A B : List Int) (k : Nat) (h : A.length = B.length) (hk : k < A.length) : (mix A B k).set k A[k] = mix A B (k + 1) := by
  unfold mix
  rw [List.set_append_right _ _ (by rw [List.length_take]; omega), List.length_take, Nat.min_eq_left (by omega), Nat.sub_self, List.drop_eq_getElem_cons (show k < B.length by omega), List.set_cons_zero,
    List.take_succ_eq_append_getElem hk, List.append_assoc]
  rfl
theorem halve_len (L : List Int) : (halve L).length = L.length := by simp [halve]
theorem halve_get (L : List Int) (k : Nat) (h : k < L.length) {h' : k < (halve L).length} : (halve L)[k] = (L[k] + 1) / 2 := by simp [halve]
/-- The symbol in whose part a number is. -/
def find : List Int → Int → Nat
  | [], _ => 0
  | [_], _ => 0
  | x :: y :: l, at_ => if at_ < x then 0 else find (y :: l) (at_ - x) + 1
theorem find_lt (L : List Int) (a : Int) (h : 1 ≤ L.length) : find L a < L.length := by
  induction L generalizing a with
  | nil => simp at h
  | cons x l ih =>
    cases l with
    | nil => simp [find]
    | cons y l =>
      unfold find
      split
      · simp
      · have := ih (a - x) (by simp)
        simp at this ⊢; omega

/-- The program's model: block m holds it, block h how often. -/
structure Is (w : World) (m h cap : Nat) (L : List Int) (fixed : Bool) : Prop where
  blk : Blk w m 107 #[.slice (some ⟨h, 0, none⟩) L.length cap, .int .u32 (lsum L), .bool fixed]
  row : RowI w 22 .u32 h cap L
  ne : m ≠ h
/-- The document's. -/
structure IsR (w : World) (m h cap : Nat) (L : List Int) (fixed : Bool) : Prop where
  blk : Blk w m 116 #[.slice (some ⟨h, 0, none⟩) L.length cap, .bool fixed]
  row : RowI w 3 .i64 h cap L
  ne : m ≠ h
section
variable {w w' : World} {m h cap : Nat} {L : List Int} {f : Bool}
theorem Is.only {S : Nat → Prop} (a : Is w m h cap L f) (o : Only S w w') (h1 : ¬ S m) (h2 : ¬ S h) : Is w' m h cap L f :=
  ⟨a.blk.of_same (o.block m a.blk.lt h1), a.row.of_same (o.block h a.row.lt h2), a.ne⟩
theorem IsR.only {S : Nat → Prop} (a : IsR w m h cap L f) (o : Only S w w') (h1 : ¬ S m) (h2 : ¬ S h) : IsR w' m h cap L f :=
  ⟨a.blk.of_same (o.block m a.blk.lt h1), a.row.of_same (o.block h a.row.lt h2), a.ne⟩
theorem Is.drewN (a : Is w m h cap L f) (n : Nat) : Is (w.drewN n) m h cap L f := ⟨a.blk.drewN n, a.row.drewN n, a.ne⟩
theorem IsR.drewN (a : IsR w m h cap L f) (n : Nat) : IsR (w.drewN n) m h cap L f := ⟨a.blk.drewN n, a.row.drewN n, a.ne⟩
end
end Go.Proofs.Ytlbjoflmfboeeaa.Mdl

/-
  The walks of the program's model: New, Part, Find, Learn; no condition but those told.
-/
set_option linter.unusedVariables false
set_option linter.unusedSimpArgs false
namespace Go.Proofs.Ytlbjoflmfboeeaa.Mdl
open Go.RowKit Go.Proofs.Ytlbjoflmfboeeaa Go.Proofs.YtlbjoflmfboeeaaW.PrintWords

theorem lsum_rep (n : Nat) : lsum (List.replicate n 1) = n := by
  induction n with
  | zero => rfl
  | succ n ih => rw [List.replicate_succ]; simp [lsum]; omega
theorem good_new (n : Nat) (h1 : 1 ≤ n) (h2 : n ≤ 64) : Good (List.replicate n 1) :=
  ⟨by simpa using h1, by simpa using h2, fun x hx => by rw [List.eq_of_mem_replicate hx]; omega, by rw [lsum_rep]; omega⟩
theorem fillTo_ones (n : Nat) : fillTo (fun _ => 1) n n = List.replicate n 1 := by
  rw [fillTo_all]
  apply List.ext_getElem <;> simp
set_option maxHeartbeats 1000000 in
theorem New_yes (n : Nat) (h1 : 1 ≤ n) (h2 : n ≤ 64) (w : World) : Calls Try.prog 16 #[.int .i64 n] w fun e w' => ∃ m h, e = .returned (.tuple #[.pointer (some ⟨m, 0, none⟩), .int .i64 0]) ∧ w.heap.size ≤ m ∧ w.heap.size ≤ h ∧ Is w' m h n (List.replicate n 1) false ∧ Below w.heap.size w w' := by
  have m1 : ∀ w : World, (Instr.makeSlice 45 (.int .i64 n) (.int .i64 n)).run Try.prog w = .ok (.slice (some ⟨w.heap.size, 0, none⟩) n n) (w.alloc (.cells (madeCells #[.int .u32 0] n) 22)) := fun w => run_make_row' 45 22 (.int .u32 0) 4 Try.underlying45 (by kernel_rfl) rfl .i64 .i64 n (by omega) (by omega) w
  go_enter Try.func16, Try.ntmps16
  go_wp2
  have hsz : w.heap.size < w.heap.size + 1 := Nat.lt_succ_self _
  go_loopw [23] (fun v wr => ∃ k : Nat, k ≤ n ∧ v = .int .i64 (k : Int) ∧ Hid (Blk wr (w.heap.size + 1) 107 #[.slice (some ⟨w.heap.size, 0, none⟩) n n, .int .u32 (n : Int), .bool false]) ∧ Hid (RowI wr 22 .u32 w.heap.size n (fillTo (fun _ => 1) n k)) ∧ Hid (Below w.heap.size w wr)) (fun v _ => n - (intOf v).toNat)
  case atStart => exact ⟨0, by omega, rfl, Blk.new_at _ _ (by simp), by rw [fillTo_zero]; exact (RowI.new w _ _ n 0 (by unfold maxLen; omega)).alloc _, (((Below.refl _ _).alloc (Nat.le_refl _) _).alloc (by simp) _ : Below _ _ _)⟩
  case round =>
    obtain ⟨k, hk, rfl, HM, HR, HB⟩ := hrel
    have d0 := HM.out.cell (i := 0) rfl
    by_cases hlt : k < n
    · have d1 := HR.out.cell (i := k) (by rw [fillTo_len]; exact hlt)
      rw [fillTo_at] at d1
      have f1 := HR.out.free k
      go_wp2
      refine ⟨⟨k + 1, by omega, by push_cast; rfl, HM.out.other (a := ⟨w.heap.size, k, none⟩) (by simp) _, ?_, HB.out.setCell (p := ⟨w.heap.size, k, none⟩) (by simp) _⟩, by simp [intOf]; omega⟩
      rw [← fillTo_set]
      exact HR.out.set k 1
    · obtain rfl : k = n := by omega
      go_wp2
      go_ret2
      rw [fillTo_ones] at HR
      exact ⟨w.heap.size + 1, w.heap.size, rfl, by omega, by omega, ⟨by rw [lsum_rep, List.length_replicate]; exact HM.out, HR.out, by omega⟩, HB.out⟩
theorem New_no (n : Int) (h : n < 1 ∨ 64 < n) (w : World) : Calls Try.prog 16 #[.int .i64 n] w fun e w' => e = .returned (.tuple #[.pointer none, .int .i64 1]) ∧ w' = w := by
  rcases h with h | h
  · go_enter Try.func16, Try.ntmps16
    go_wp2
    go_ret2
    exact ⟨rfl, rfl⟩
  · have h' : ¬ n < 1 := by omega
    go_enter Try.func16, Try.ntmps16
    go_wp2
    go_ret2
    exact ⟨rfl, rfl⟩
/-- A part, as a value. -/
def part (lo ow al : Int) : Value := .agg #[.int .u32 lo, .int .u32 ow, .int .u32 al]
theorem Part_none (s : Value) (w : World) : Calls Try.prog 61 #[.pointer none, s] w fun e w' => e = .returned (.tuple #[part 0 0 0, .int .i64 1]) ∧ Below w.heap.size w w' := by
  go_enter Try.func61, Try.ntmps61
  go_wp2
  refine bodyPost_ret (v := .tuple #[part 0 0 0, .int .i64 1]) (by simp [results, Try.results61, go_sem]; rfl) rfl ⟨rfl, ((Below.refl _ _).alloc (Nat.le_refl _) _ : Below _ _ _)⟩
set_option maxHeartbeats 1000000 in
set_option maxRecDepth 100000 in
theorem Part_some {w : World} {m h cap : Nat} {L : List Int} {f : Bool} (a : Is w m h cap L f) (good : Good L) (s : Nat) (hs : s < L.length) :
    Calls Try.prog 61 #[.pointer (some ⟨m, 0, none⟩), .int .i64 s] w fun e w' => e = .returned (.tuple #[part (lsum (L.take s)) (L.getD s 0) (lsum L), .int .i64 0]) ∧ Below w.heap.size w w' := by
  have d0 := a.blk.cell (i := 0) rfl
  have d1 := a.blk.cell (i := 1) rfl
  have d2 := a.row.cell hs
  have hl2 := good.len2
  have hm := a.blk.lt
  have hh := a.row.lt
  have hc := a.row.len.1
  have A := Lib.hid a
  have G := Lib.hid good
  obtain ⟨n, hn⟩ : ∃ n, L.length = n := ⟨_, rfl⟩
  have HN := Lib.hid hn
  rw [hn] at d0 hs hl2 hc
  have i0 : (s : Int) < n := by omega
  obtain ⟨x, hx⟩ : ∃ x, L[s]'(by omega) = x := ⟨_, rfl⟩
  rw [hx] at d2
  have HX := Lib.hid hx
  clear hx hn
  go_enter Try.func61, Try.ntmps61
  go_wp2
  go_region
  go_wp2
  clear d0 d1 d2
  go_loopw [44] (fun v wr => ∃ k : Nat, k ≤ s ∧ v = .int .i64 (k : Int) ∧ Hid (Blk wr w.heap.size 31 #[.int .u32 0, .int .u32 0, .int .u32 0]) ∧ Hid (Blk wr (w.heap.size + 1) 31 #[.int .u32 (lsum (L.take k)), .int .u32 x, .int .u32 (lsum L)]) ∧ Hid (Below w.heap.size w wr)) (fun v _ => s - (intOf v).toNat)
  case atStart => exact ⟨0, by omega, rfl, ((Blk.new w _ _).alloc _).drew, (Blk.new_at _ _ (by simp)).drew, ((((Below.refl _ _).alloc (Nat.le_refl _) _).alloc (by simp) _).drew : Below _ _ _)⟩
  case round =>
    obtain ⟨k, hk, rfl, H0, HP, HB⟩ := hrel
    have p0 := HP.out.cell (i := 0) rfl
    have p1 := HP.out.cell (i := 1) rfl
    have p2 := HP.out.cell (i := 2) rfl
    have pf := HP.out.free 0
    by_cases hlt : k < s
    · have d2 := (A.out.row.below HB.out hh).cell (i := k) (by rw [HN.out]; omega)
      have hk1 := G.out.at (k := k) (by rw [HN.out]; omega)
      have hall := G.out.all
      have HS := Lib.hid (lsum_take_succ L k (by rw [HN.out]; omega))
      generalize L[k]'(by rw [HN.out]; omega) = y at *
      go_wp2
      refine ⟨⟨k + 1, by omega, by push_cast; rfl, H0.out.other (a := ⟨w.heap.size + 1, 0, none⟩) (by simp) _, ?_, HB.out.setCell (p := ⟨w.heap.size + 1, 0, none⟩) (by simp) _⟩, by simp [intOf]; omega⟩
      rw [HS.out]
      exact HP.out.set 0 _
    · obtain rfl : k = s := by omega
      have q0 := H0.out.cell (i := 0) rfl
      have q1 := H0.out.cell (i := 1) rfl
      have q2 := H0.out.cell (i := 2) rfl
      have e0 := H0.out.free 0
      have e1 := H0.out.free 1
      have e2 := H0.out.free 2
      go_wp2
      have hb2 : Below w.heap.size w (((wr.setCell ⟨w.heap.size, 0, none⟩ (.int .u32 (lsum (L.take k)))).setCell ⟨w.heap.size, 1, none⟩ (.int .u32 x)).setCell ⟨w.heap.size, 2, none⟩ (.int .u32 (lsum L))) := ((HB.out.setCell (p := ⟨w.heap.size, 0, none⟩) (Nat.le_refl _) _).setCell (p := ⟨w.heap.size, 1, none⟩) (Nat.le_refl _) _).setCell (p := ⟨w.heap.size, 2, none⟩) (Nat.le_refl _) _
      have hx : L.getD k 0 = x := by rw [List.getD_eq_getElem?_getD, List.getElem?_eq_getElem (by rw [HN.out]; exact hs), HX.out]; rfl
      rw [hx]
      exact bodyPost_ret (v := .tuple #[part (lsum (L.take k)) x (lsum L), .int .i64 0]) (by simp [results, Try.results61, go_sem, part, q0, q1, q2, e0, e1, e2]) rfl ⟨rfl, hb2⟩
theorem Part_bad {w : World} {m h cap : Nat} {L : List Int} {f : Bool} (a : Is w m h cap L f) (s : Int) (hs : s < 0 ∨ (L.length : Int) ≤ s) :
    Calls Try.prog 61 #[.pointer (some ⟨m, 0, none⟩), .int .i64 s] w fun e w' => e = .returned (.tuple #[part 0 0 0, .int .i64 1]) ∧ Below w.heap.size w w' := by
  have d0 := a.blk.cell (i := 0) rfl
  have hm := a.blk.lt
  generalize L.length = n at *
  rcases hs with hs | hs
  · go_enter Try.func61, Try.ntmps61
    go_wp2
    exact bodyPost_ret (v := .tuple #[part 0 0 0, .int .i64 1]) (by simp [results, Try.results61, go_sem]; rfl) rfl ⟨rfl, ((Below.refl _ _).alloc (Nat.le_refl _) _ : Below _ _ _)⟩
  · have h0 : ¬ s < 0 := by omega
    go_enter Try.func61, Try.ntmps61
    go_wp2
    exact bodyPost_ret (v := .tuple #[part 0 0 0, .int .i64 1]) (by simp [results, Try.results61, go_sem]; rfl) rfl ⟨rfl, ((Below.refl _ _).alloc (Nat.le_refl _) _ : Below _ _ _)⟩
theorem find_cons (x : Int) (l : List Int) (a : Int) : find (x :: l) a = if a < x ∨ l = [] then 0 else find l (a - x) + 1 := by
  cases l with
  | nil => simp [find]
  | cons y l => by_cases h : a < x <;> simp [find, h]
/-- What is found from the k-th on. -/
theorem find_drop (L : List Int) (k : Nat) (hk : k < L.length) (a : Int) : find (L.drop k) a = if a < L[k] ∨ k + 1 = L.length then 0 else find (L.drop (k + 1)) (a - L[k]) + 1 := by
  rw [List.drop_eq_getElem_cons hk, find_cons]
  have : (L.drop (k + 1) = []) ↔ (k + 1 = L.length) := by rw [List.drop_eq_nil_iff]; omega
  simp only [this]
set_option maxHeartbeats 1000000 in
theorem Find_some {w : World} {m h cap : Nat} {L : List Int} {f : Bool} (a : Is w m h cap L f) (good : Good L) (x : Int) (h0 : 0 ≤ x) (h1 : x < 4294967296) :
    Calls Try.prog 69 #[.pointer (some ⟨m, 0, none⟩), .int .u32 x] w fun e w' => e = .returned (.int .i64 (find L x)) ∧ w' = w := by
  have d0 := a.blk.cell (i := 0) rfl
  have hl2 := good.len2
  have hl1 := good.len1
  have A := Lib.hid a
  have G := Lib.hid good
  obtain ⟨n, hn⟩ : ∃ n, L.length = n := ⟨_, rfl⟩
  have HN := Lib.hid hn
  rw [hn] at d0 hl1 hl2
  clear hn a good
  go_enter Try.func69, Try.ntmps69
  go_wp2
  go_loop [1, 14] (fun v i => ∃ (k : Nat) (y : Int), k ≤ n ∧ i = .int .i64 (k : Int) ∧ v = .int .u32 y ∧ 0 ≤ y ∧ y < 4294967296 ∧ (k < n → Hid (find L x = find (L.drop k) y + k)) ∧ (k = n → Hid (find L x = n - 1))) (fun _ i => n - (intOf i).toNat)
  case atStart => exact ⟨0, x, by omega, rfl, rfl, h0, h1, fun _ => by show _ = _; rw [List.drop_zero]; rfl, fun h => by omega⟩
  case round =>
    obtain ⟨k, y, hk, rfl, rfl, hy0, hy1, hf, hl⟩ := hrel
    by_cases hlt : k < n
    · have d2 := A.out.row.cell (i := k) (by rw [HN.out]; omega)
      have hp := (G.out.at (k := k) (by rw [HN.out]; omega)).1
      have hF := hf hlt
      have HD := Lib.hid (find_drop L k (by rw [HN.out]; omega) y)
      clear hf hl
      generalize L[k]'(by rw [HN.out]; omega) = z at *
      by_cases hc : y < z
      · have HE : Hid (find L x = k) := by
          show _ = _
          rw [hF.out, HD.out, if_pos (.inl hc)]; omega
        go_wp2
        go_ret
        rw [HE.out]
        exact ⟨rfl, rfl⟩
      · go_wp2
        go_round
        case rel =>
          refine ⟨k + 1, y - z, by omega, by push_cast; rfl, rfl, by omega, by omega, fun h2 => ?_, fun h2 => ?_⟩
          · show _ = _
            rw [hF.out, HD.out, if_neg (by rw [HN.out]; omega)]; omega
          · show _ = _
            rw [hF.out, HD.out, if_pos (.inr (by rw [HN.out]; omega))]; omega
        case measure => simp [intOf]; omega
    · obtain rfl : k = n := by omega
      have hF := hl rfl
      clear hf hl
      go_wp2
      go_ret
      rw [hF.out]
      exact ⟨by rw [Int.natCast_sub hl1]; rfl, rfl⟩
theorem Find_none (x : Value) (w : World) : Calls Try.prog 69 #[.pointer none, x] w fun e w' => e = .returned (.int .i64 0) ∧ w' = w := by
  go_enter Try.func69, Try.ntmps69
  go_wp2
  go_ret
  exact ⟨rfl, rfl⟩
theorem Learn_none (s : Value) (w : World) : Calls Try.prog 62 #[.pointer none, s] w fun e w' => e = .returned (.int .i64 1) ∧ w' = w := by
  go_enter Try.func62, Try.ntmps62
  go_wp2
  go_ret
  exact ⟨rfl, rfl⟩
theorem Learn_bad {w : World} {m h cap : Nat} {L : List Int} {f : Bool} (a : Is w m h cap L f) (s : Int) (hs : s < 0 ∨ (L.length : Int) ≤ s) :
    Calls Try.prog 62 #[.pointer (some ⟨m, 0, none⟩), .int .i64 s] w fun e w' => e = .returned (.int .i64 1) ∧ w' = w := by
  have d0 := a.blk.cell (i := 0) rfl
  generalize L.length = n at *
  rcases hs with hs | hs
  · go_enter Try.func62, Try.ntmps62
    go_wp2
    go_ret
    exact ⟨rfl, rfl⟩
  · have h0 : ¬ s < 0 := by omega
    go_enter Try.func62, Try.ntmps62
    go_wp2
    go_ret
    exact ⟨rfl, rfl⟩
theorem Learn_fixed {w : World} {m h cap : Nat} {L : List Int} (a : Is w m h cap L true) (s : Nat) (hs : s < L.length) :
    Calls Try.prog 62 #[.pointer (some ⟨m, 0, none⟩), .int .i64 s] w fun e w' => e = .returned (.int .i64 0) ∧ w' = w := by
  have d0 := a.blk.cell (i := 0) rfl
  have d2 := a.blk.cell (i := 2) rfl
  generalize L.length = n at *
  go_enter Try.func62, Try.ntmps62
  go_wp2
  go_ret
  exact ⟨rfl, rfl⟩
set_option maxHeartbeats 2000000 in
set_option maxRecDepth 100000 in
theorem Learn_yes {w : World} {m h cap : Nat} {L : List Int} (a : Is w m h cap L false) (good : Good L) (s : Nat) (hs : s < L.length) :
    Calls Try.prog 62 #[.pointer (some ⟨m, 0, none⟩), .int .i64 s] w fun e w' => e = .returned (.int .i64 0) ∧ Is w' m h cap (learn L s) false ∧ Only (fun k => k = m ∨ k = h) w w' := by
  have d0 := a.blk.cell (i := 0) rfl
  have d1 := a.blk.cell (i := 1) rfl
  have d2 := a.blk.cell (i := 2) rfl
  have d3 := a.row.cell hs
  have f1 := a.blk.free 1
  have f3 := a.row.free s
  have hne := a.ne
  have hl2 := good.len2
  have hall := good.all
  have hb := good.at hs
  have HS := Lib.hid (lsum_bump L s hs)
  have HBL := Lib.hid (bump_len L s)
  have HBP := Lib.hid (bump_pos L s good.pos hs)
  have HW := Lib.hid a
  have HBset : Hid (bump L s = L.set s (L[s] + 32)) := Lib.hid (by unfold bump; rw [List.getD_eq_getElem?_getD, List.getElem?_eq_getElem hs]; rfl)
  have HLn : Hid (learn L s = if lsum (bump L s) > 8192 then halve (bump L s) else bump L s) := Lib.hid rfl
  obtain ⟨B, hB⟩ : ∃ B, bump L s = B := ⟨_, rfl⟩
  rw [hB] at HS HBL HBP HBset HLn
  obtain ⟨n, hn⟩ : ∃ n, L.length = n := ⟨_, rfl⟩
  rw [hn] at d0 hs hl2 HBL
  have i0 : (s : Int) < n := by omega
  have HN := Lib.hid hn
  generalize L[s]'(by omega) = x at *
  clear hB hn
  obtain ⟨al, hal⟩ : ∃ al, lsum L = al := ⟨_, rfl⟩
  have HA := Lib.hid hal
  rw [hal] at d1 hall hb HS
  clear hal a good
  have b1 : decide ((s : Int) < 0) = false := decide_eq_false (by omega)
  have b2 : decide (n ≤ s) = false := decide_eq_false (by omega)
  go_enter Try.func62, Try.ntmps62
  have hrow : RowI (w.setCell ⟨h, s, none⟩ (.int .u32 (x + 32))) 22 .u32 h cap B := by
    rw [HBset.out]; exact HW.out.row.set s (x + 32)
  have hblk : Blk (w.setCell ⟨h, s, none⟩ (.int .u32 (x + 32))) m 107 #[.slice (some ⟨h, 0, none⟩) n cap, .int .u32 al, .bool false] := by
    have := HW.out.blk.other (a := ⟨h, s, none⟩) hne (.int .u32 (x + 32))
    rwa [HN.out, HA.out] at this
  have honly : Only (fun k => k = m ∨ k = h) w (w.setCell ⟨h, s, none⟩ (.int .u32 (x + 32))) := (Only.refl _ w).set (p := ⟨h, s, none⟩) (.inl (.inr rfl)) _
  have HR := Lib.hid hrow
  have HK := Lib.hid hblk
  have HO := Lib.hid honly
  clear hrow hblk honly
  by_cases hc : 8192 < al + 32
  · go_wp2
    go_loopw [55] (fun v wr => ∃ k : Nat, k ≤ n ∧ v = .int .i64 (k : Int) ∧ Hid (Blk wr m 107 #[.slice (some ⟨h, 0, none⟩) n cap, .int .u32 (lsum ((halve B).take k)), .bool false]) ∧ Hid (RowI wr 22 .u32 h cap (mix (halve B) B k)) ∧ Hid (Only (fun k => k = m ∨ k = h) w wr)) (fun v _ => n - (intOf v).toNat)
    case atStart => exact ⟨0, by omega, rfl, (HK.out.set 1 (.int .u32 (al + 32))).set 1 (.int .u32 0), by rw [mix_zero]; exact (HR.out.other (a := ⟨m, 1, none⟩) (Ne.symm hne) _).other (a := ⟨m, 1, none⟩) (Ne.symm hne) _, (HO.out.set (p := ⟨m, 1, none⟩) (.inl (.inl rfl)) _).set (p := ⟨m, 1, none⟩) (.inl (.inl rfl)) _⟩
    case round =>
      clear HR HK HO d0 d1 d2 d3 f1 f3
      obtain ⟨k, hk, rfl, HK, HR, HO⟩ := hrel
      by_cases hlt : k < n
      · have hlen : (halve B).length = B.length := halve_len B
        have e0 := HK.out.cell (i := 0) rfl
        have e1 := HK.out.cell (i := 1) rfl
        have g1 := HK.out.free 1
        have e3 := HR.out.cell (i := k) (by rw [mix_len _ _ _ hlen (by rw [hlen, HBL.out]; omega), HBL.out]; omega)
        rw [mix_get _ _ _ hlen (by rw [HBL.out]; omega)] at e3
        have g3 := HR.out.free k
        have HSum := Lib.hid (lsum_take_succ (halve B) k (by rw [hlen, HBL.out]; omega))
        have HM := Lib.hid (mix_set (halve B) B k hlen (by rw [hlen, HBL.out]; omega))
        have hg := halve_get B k (by rw [HBL.out]; omega) (h' := by rw [hlen, HBL.out]; omega)
        rw [hg] at HSum HM
        have hy1 := HBP.out _ (List.getElem_mem (show k < B.length by rw [HBL.out]; omega))
        have hs0 := lsum_take_le (halve B) (fun x hx => by have := halve_pos B HBP.out x hx; omega) k
        have hs1 := halve_sum B HBP.out
        have hy2 := lsum_take_le B (fun x hx => by have := HBP.out x hx; omega) (k + 1)
        have hy3 := lsum_take_le B (fun x hx => by have := HBP.out x hx; omega) k
        rw [lsum_take_succ B k (by rw [HBL.out]; omega)] at hy2
        rw [HBL.out] at hs1
        rw [HS.out] at hs1 hy2 hy3
        clear hg
        generalize B[k]'(by rw [HBL.out]; omega) = y at *
        have HK2 := Lib.hid (HK.out.other (a := ⟨h, k, none⟩) hne (.int .u32 ((y + 1) / 2)))
        have HR2 := Lib.hid (HR.out.set k ((y + 1) / 2))
        have HO2 := Lib.hid (HO.out.set (p := ⟨h, k, none⟩) (.inl (.inr rfl)) (.int .u32 ((y + 1) / 2)))
        rw [HM.out] at HR2
        go_wp2
        clear e0 e1 e3 g1 g3 HK HR HO
        generalize (wr.setCell ⟨h, k, none⟩ (.int .u32 ((y + 1) / 2))) = wm at *
        have e0 := HK2.out.cell (i := 0) rfl
        have e1 := HK2.out.cell (i := 1) rfl
        have g1 := HK2.out.free 1
        have e3 : wm.cell? ⟨h, k, none⟩ = some (.int .u32 ((y + 1) / 2)) := by
          have := HR2.out.cell (i := k) (by rw [mix_len _ _ _ hlen (by rw [hlen, HBL.out]; omega), HBL.out]; omega)
          rw [this]
          congr 2
          rw [← Option.some_inj, ← List.getElem?_eq_getElem]
          rw [← HM.out, List.getElem?_set_self (by rw [mix_len _ _ _ hlen (by rw [hlen, HBL.out]; omega), HBL.out]; omega)]
        go_still_tail 14, (by kernel_rfl)
        go_wp2
        go_roundw
        case rel =>
          refine ⟨k + 1, by omega, by push_cast; rfl, ?_, ?_, ?_⟩
          · rw [HSum.out]
            exact (HK2.out.set 1 _).drew
          · exact (HR2.out.other (a := ⟨m, 1, none⟩) (Ne.symm hne) _).drew
          · exact (HO2.out.set (p := ⟨m, 1, none⟩) (.inl (.inl rfl)) _).drew
        case measure => simp [intOf]; omega
      · obtain rfl : k = n := by omega
        have e0 := HK.out.cell (i := 0) rfl
        go_wp2
        go_ret
        have h8 : lsum B > 8192 := by rw [HS.out]; omega
        have hlen : (halve B).length = B.length := halve_len B
        rw [HLn.out, if_pos h8]
        refine ⟨rfl, ⟨?_, ?_, hne⟩, HO.out⟩
        · have := HK.out
          rw [List.take_of_length_le (by rw [hlen, HBL.out]; omega)] at this
          rw [hlen, HBL.out]; exact this
        · have := HR.out
          rw [← HBL.out, mix_all _ _ hlen] at this
          exact this
  · have h8 : ¬ (lsum B > 8192) := by rw [HS.out]; omega
    rw [if_neg h8] at HLn
    rw [HLn.out]
    have hfin : Is ((w.setCell ⟨h, s, none⟩ (.int .u32 (x + 32))).setCell ⟨m, 1, none⟩ (.int .u32 (al + 32))) m h cap B false :=
      ⟨by rw [HBL.out, HS.out]; exact HK.out.set 1 _, HR.out.other (a := ⟨m, 1, none⟩) (Ne.symm hne) _, hne⟩
    have HFin := Lib.hid hfin
    clear hfin h8
    go_wp2
    go_ret
    exact ⟨rfl, HFin.out, HO.out.set (p := ⟨m, 1, none⟩) (.inl (.inl rfl)) _⟩
theorem Learn_any {w : World} {m h cap : Nat} {L : List Int} {f : Bool} (a : Is w m h cap L f) (good : Good L) (s : Nat) (hs : s < L.length) :
    Calls Try.prog 62 #[.pointer (some ⟨m, 0, none⟩), .int .i64 s] w fun e w' => e = .returned (.int .i64 0) ∧ Is w' m h cap (next f L s) f ∧ Only (fun k => k = m ∨ k = h) w w' := by
  cases f with
  | true =>
    refine (Learn_fixed a s hs).mono ?_
    rintro e w' ⟨rfl, rfl⟩
    exact ⟨rfl, a, Only.refl _ _⟩
  | false => exact Learn_yes a good s hs
end Go.Proofs.Ytlbjoflmfboeeaa.Mdl

/-
  The walks of the document's model: New, Sum, Find, Learn, and of both Fixed; no condition but those told.
-/
set_option linter.unusedVariables false
set_option linter.unusedSimpArgs false
namespace Go.Proofs.Ytlbjoflmfboeeaa.Mdl
open Go.RowKit Go.Proofs.Ytlbjoflmfboeeaa Go.Proofs.YtlbjoflmfboeeaaW.PrintWords

theorem info_int : (Try.prog.info? 3).map (fun i => (i.zero, i.size, i.bytes)) = some (some (.int .i64 0), 1, 8) := by kernel_rfl
theorem info_u32 : (Try.prog.info? 22).map (fun i => (i.zero, i.size, i.bytes)) = some (some (.int .u32 0), 1, 4) := by kernel_rfl
theorem rep_snoc (k : Nat) (x : Int) : List.replicate k x ++ [x] = List.replicate (k + 1) x := by
  rw [List.replicate_succ']
set_option maxHeartbeats 1000000 in
set_option maxRecDepth 100000 in
theorem RNew_yes (n : Nat) (h1 : 1 ≤ n) (h2 : n ≤ 64) (w : World) : Calls Try.prog 23 #[.int .i64 n] w fun e w' => ∃ m h cap, e = .returned (.tuple #[.pointer (some ⟨m, 0, none⟩), .bool true]) ∧ w.heap.size ≤ m ∧ w.heap.size ≤ h ∧ IsR w' m h cap (List.replicate n 1) false ∧ Below w.heap.size w w' := by
  go_enter Try.func23, Try.ntmps23
  go_wp2
  go_loopw [5] (fun i wr => ∃ (k : Nat) (v : Value), k ≤ n ∧ i = .int .i64 (k : Int) ∧ Hid (Blk wr w.heap.size 116 #[v, .bool false]) ∧ Hid (Sl wr 3 .i64 v (List.replicate k 1)) ∧ Hid (∀ g, v.ownBlock = some g → w.heap.size < g) ∧ Hid (Below w.heap.size w wr)) (fun v _ => n - (intOf v).toNat)
  case atStart => exact ⟨0, .slice none 0 0, by omega, rfl, Blk.new _ _ _, Sl.nil _ _ _, fun g hg => (by cases hg), ((Below.refl _ _).alloc (Nat.le_refl _) _ : Below _ _ _)⟩
  case round =>
    obtain ⟨k, v, hk, rfl, HM, HS, HN, HB⟩ := hrel
    by_cases hlt : k < n
    · have d0 := HM.out.cell (i := 0) rfl
      have hwr := HM.out.lt
      go_wp2_with (first
        | (at_builtin; refine wpList_push (.tmp 23) (.tmp 24) 54 3 .i64 0 8 rfl rfl Try.underlying54 info_int v (List.replicate k 1) k 1 ⟨wr.heap.size, 0, none⟩ (wr.heap.size + 1) rfl rfl (HS.out.alloc _) (by simp) ((Blk.new wr _ _).cell rfl) (by simp) (by omega) (by omega) ?_
           intro g cap w1 hp
           have HM1 := Lib.hid ((HM.out.alloc (.cells #[.int .i64 1] 3)).of_same (hp.block (by simp; omega) (fun e => by have := HN.out _ e; omega)))
           have d1 := HM1.out.cell (i := 0) rfl
           have f1 := HM1.out.free 0
           have HP := Lib.hid hp
           clear hp))
      go_roundw
      case rel =>
        have hgw : w.heap.size < g := by
          rcases HP.out.at_ with h | h
          · exact HN.out g h
          · omega
        refine ⟨k + 1, .slice (some ⟨g, 0, none⟩) (k + 1) cap, by omega, by push_cast; rfl, HM1.out.set 0 _, ?_, fun g' hg' => ?_, ?_⟩
        · have := Sl.row (HP.out.row.other (a := ⟨w.heap.size, 0, none⟩) (by simp; omega) (.slice (some ⟨g, 0, none⟩) (k + 1) cap))
          rw [rep_snoc, List.length_replicate] at this
          exact this
        · have e : g = g' := Option.some.inj hg'
          omega
        · exact (((HB.out.alloc HB.out.size _).trans (HP.out.only.below (B := w.heap.size) (by simp; omega) (fun i hi => by have := HN.out i hi; omega))).setCell (p := ⟨w.heap.size, 0, none⟩) (Nat.le_refl _) _ : Below _ _ _)
      case measure => simp [intOf]; omega
    · obtain rfl : k = n := by omega
      have hs := HS.out
      rcases hs with ⟨_, h0⟩ | ⟨g, cap, rfl, hr⟩
      · have := congrArg List.length h0
        rw [List.length_replicate] at this
        simp at this; omega
      · have hg := HN.out g rfl
        have HR := Lib.hid hr
        clear hr
        go_wp2
        go_ret2
        exact ⟨w.heap.size, g, cap, rfl, Nat.le_refl _, by omega, ⟨HM.out, HR.out, by omega⟩, HB.out⟩
theorem RSum_calls {w : World} {m h cap : Nat} {L : List Int} {f : Bool} (a : IsR w m h cap L f) (nn : ∀ x ∈ L, 0 ≤ x) (all : lsum L ≤ 1000000000) (s : Nat) (hs : s ≤ L.length) (hl : L.length ≤ 64) :
    Calls Try.prog 63 #[.pointer (some ⟨m, 0, none⟩), .int .i64 s] w fun e w' => e = .returned (.int .i64 (lsum (L.take s))) ∧ w' = w := by
  have d0 := a.blk.cell (i := 0) rfl
  have A := Lib.hid a
  have NN := Lib.hid nn
  clear a nn
  obtain ⟨n, hn⟩ : ∃ n, L.length = n := ⟨_, rfl⟩
  have HN := Lib.hid hn
  rw [hn] at d0 hs hl
  clear hn
  go_enter Try.func63, Try.ntmps63
  go_wp2
  go_loop [5, 6] (fun v i => ∃ k : Nat, k ≤ s ∧ i = .int .i64 (k : Int) ∧ v = .int .i64 (lsum (L.take k))) (fun _ i => s - (intOf i).toNat)
  case atStart => exact ⟨0, by omega, rfl, rfl⟩
  case round =>
    obtain ⟨k, hk, rfl, rfl⟩ := hrel
    by_cases hlt : k < s
    · have d2 := A.out.row.cell (i := k) (by rw [HN.out]; omega)
      have h1 := lsum_take_le L NN.out k
      have h2 := lsum_take_le L NN.out (k + 1)
      have h3 := NN.out _ (List.getElem_mem (show k < L.length by rw [HN.out]; omega))
      have HS := Lib.hid (lsum_take_succ L k (by rw [HN.out]; omega))
      rw [HS.out] at h2
      generalize L[k]'(by rw [HN.out]; omega) = y at *
      have i1 : (k : Int) < n := by omega
      go_wp2
      go_round
      case rel => exact ⟨k + 1, by omega, by push_cast; rfl, by rw [HS.out]⟩
      case measure => simp [intOf]; omega
    · obtain rfl : k = s := by omega
      go_wp2
      go_ret
      exact ⟨rfl, rfl⟩
/-- What is found by sums. -/
theorem find_before (L : List Int) (x : Int) (k : Nat) (hk : k < find L x) : lsum (L.take (k + 1)) ≤ x := by
  induction L generalizing x k with
  | nil => simp [find] at hk
  | cons a l ih =>
    rw [find_cons] at hk
    by_cases h : x < a ∨ l = []
    · rw [if_pos h] at hk; omega
    · rw [if_neg h] at hk
      have hxa : ¬ x < a := fun e => h (.inl e)
      cases k with
      | zero => simp [lsum]; omega
      | succ k =>
        have := ih (x - a) k (by omega)
        have e : lsum ((a :: l).take (k + 1 + 1)) = a + lsum (l.take (k + 1)) := by simp [lsum]
        omega
theorem find_at (L : List Int) (x : Int) (h0 : 0 ≤ x) (hf : find L x + 1 < L.length) : x < lsum (L.take (find L x + 1)) := by
  induction L generalizing x with
  | nil => simp at hf
  | cons a l ih =>
    rw [find_cons] at hf ⊢
    by_cases h : x < a ∨ l = []
    · rw [if_pos h] at hf ⊢
      rcases h with h | h
      · simp [lsum]; omega
      · subst h; simp at hf
    · rw [if_neg h] at hf ⊢
      have hxa : ¬ x < a := fun e => h (.inl e)
      have := ih (x - a) (by omega) (by simp at hf; omega)
      have e : lsum ((a :: l).take (find l (x - a) + 1 + 1)) = a + lsum (l.take (find l (x - a) + 1)) := by simp [lsum]
      omega
set_option maxHeartbeats 1000000 in
theorem RFind_calls {w : World} {m h cap : Nat} {L : List Int} {f : Bool} (a : IsR w m h cap L f) (good : Good L) (x : Int) (h0 : 0 ≤ x) (h1 : x < 4294967296) :
    Calls Try.prog 72 #[.pointer (some ⟨m, 0, none⟩), .int .i64 x] w fun e w' => e = .returned (.int .i64 (find L x)) ∧ w' = w := by
  have d0 := a.blk.cell (i := 0) rfl
  have hl2 := good.len2
  have hl1 := good.len1
  have A := Lib.hid a
  have G := Lib.hid good
  clear a good
  obtain ⟨n, hn⟩ : ∃ n, L.length = n := ⟨_, rfl⟩
  have HN := Lib.hid hn
  have hfl := find_lt L x (by omega)
  have HB := Lib.hid (find_before L x)
  have HT := Lib.hid (find_at L x h0)
  rw [hn] at d0 hl1 hl2 hfl HT
  generalize find L x = r at *
  clear hn
  go_enter Try.func72, Try.ntmps72
  go_wp2
  go_loopw [5] (fun i wr => ∃ k : Nat, k ≤ n ∧ i = .int .i64 (k : Int) ∧ (k ≤ r ∨ k = n ∧ r + 1 = n) ∧ wr = w) (fun i _ => n - (intOf i).toNat)
  case atStart => exact ⟨0, by omega, rfl, .inl (by omega), rfl⟩
  case round =>
    obtain ⟨k, hk, rfl, hkr, rfl⟩ := hrel
    by_cases hlt : k < n
    · have hkr2 : k ≤ r := by omega
      have hall := G.out.all
      have nn := G.out.nonneg
      have HSn := Lib.hid (RSum_calls A.out nn (by omega) (k + 1) (by rw [HN.out]; omega) (by rw [HN.out]; omega))
      have h2 := lsum_take_le L nn (k + 1)
      have b1 : k < r → lsum (L.take (k + 1)) ≤ x := HB.out k
      have b2 : k = r → r + 1 < n → x < lsum (L.take (k + 1)) := by rintro rfl hh; exact HT.out hh
      clear nn hkr
      obtain ⟨sm, hsm⟩ : ∃ sm, lsum (L.take (k + 1)) = sm := ⟨_, rfl⟩
      rw [hsm] at h2 b1 b2 HSn
      clear hsm
      have e1 : IntKind.i64.wrap ((k : Int) + 1) = ((k + 1 : Nat) : Int) := by rw [wrapI64 (by omega) (by omega)]; rfl
      by_cases hc : x < sm
      · have hrk : r = k := by
          rcases Nat.lt_or_ge k r with h | h
          · have := b1 h; omega
          · omega
        clear b1 b2
        subst hrk
        go_wp2_with (go_at_call 63; refine HSn.out.mono ?_; rintro e w' ⟨rfl, rfl⟩)
        go_ret
        exact ⟨rfl, rfl⟩
      · have hrk : k < r ∨ (k = r ∧ r + 1 = n) := by
          rcases Nat.lt_or_ge k r with h | h
          · exact .inl h
          · refine .inr ⟨by omega, ?_⟩
            rcases Nat.lt_or_ge (r + 1) n with h3 | h3
            · have := b2 (by omega) h3; omega
            · omega
        clear b1 b2
        go_wp2_with (go_at_call 63; refine HSn.out.mono ?_; rintro e w' ⟨rfl, rfl⟩)
        go_roundw
        case rel => exact ⟨k + 1, by omega, by push_cast; rfl, by omega, trivial⟩
        case measure => simp [intOf]; omega
    · obtain rfl : k = n := by omega
      have hr : r = k - 1 := by omega
      go_wp2
      go_ret
      exact ⟨by rw [Int.natCast_sub hl1]; rfl, rfl⟩
theorem RLearn_fixed {w : World} {m h cap : Nat} {L : List Int} (a : IsR w m h cap L true) (s : Nat) :
    Calls Try.prog 64 #[.pointer (some ⟨m, 0, none⟩), .int .i64 s] w fun e w' => e = .returned (.tuple #[]) ∧ w' = w := by
  have d1 := a.blk.cell (i := 1) rfl
  go_enter Try.func64, Try.ntmps64
  go_wp2
  exact bodyPost_ret (results_none rfl _ _ _) rfl ⟨rfl, rfl⟩
set_option maxHeartbeats 2000000 in
set_option maxRecDepth 100000 in
theorem RLearn_yes {w : World} {m h cap : Nat} {L : List Int} (a : IsR w m h cap L false) (good : Good L) (s : Nat) (hs : s < L.length) :
    Calls Try.prog 64 #[.pointer (some ⟨m, 0, none⟩), .int .i64 s] w fun e w' => e = .returned (.tuple #[]) ∧ IsR w' m h cap (learn L s) false ∧ Only (fun k => k = m ∨ k = h) w w' := by
  have d0 := a.blk.cell (i := 0) rfl
  have d1 := a.blk.cell (i := 1) rfl
  have d3 := a.row.cell hs
  have f3 := a.row.free s
  have hne := a.ne
  have hl2 := good.len2
  have hall := good.all
  have hb := good.at hs
  have HS := Lib.hid (lsum_bump L s hs)
  have HBL := Lib.hid (bump_len L s)
  have HBP := Lib.hid (bump_pos L s good.pos hs)
  have HW := Lib.hid a
  have HBset : Hid (bump L s = L.set s (L[s] + 32)) := Lib.hid (by unfold bump; rw [List.getD_eq_getElem?_getD, List.getElem?_eq_getElem hs]; rfl)
  have HLn : Hid (learn L s = if lsum (bump L s) > 8192 then halve (bump L s) else bump L s) := Lib.hid rfl
  obtain ⟨B, hB⟩ : ∃ B, bump L s = B := ⟨_, rfl⟩
  rw [hB] at HS HBL HBP HBset HLn
  obtain ⟨n, hn⟩ : ∃ n, L.length = n := ⟨_, rfl⟩
  rw [hn] at d0 hs hl2 HBL
  have i0 : (s : Int) < n := by omega
  have HN := Lib.hid hn
  generalize L[s]'(by omega) = x at *
  clear hB hn
  have HA := Lib.hid (Eq.refl (lsum L))
  clear a good
  have hrow : RowI (w.setCell ⟨h, s, none⟩ (.int .i64 (x + 32))) 3 .i64 h cap B := by
    rw [HBset.out]; exact HW.out.row.set s (x + 32)
  have hblk : Blk (w.setCell ⟨h, s, none⟩ (.int .i64 (x + 32))) m 116 #[.slice (some ⟨h, 0, none⟩) n cap, .bool false] := by
    have := HW.out.blk.other (a := ⟨h, s, none⟩) hne (.int .i64 (x + 32))
    rwa [HN.out] at this
  have honly : Only (fun k => k = m ∨ k = h) w (w.setCell ⟨h, s, none⟩ (.int .i64 (x + 32))) := (Only.refl _ w).set (p := ⟨h, s, none⟩) (.inl (.inr rfl)) _
  have HR := Lib.hid hrow.drew
  have HK := Lib.hid hblk.drew
  have HO := Lib.hid honly.drew
  clear hrow hblk honly
  go_enter Try.func64, Try.ntmps64
  go_wp2
  go_still_tail 14, (by kernel_rfl)
  go_wp2_with fail
  clear d0 d1 d3 f3
  generalize (w.setCell ⟨h, s, none⟩ (.int .i64 (x + 32))).drew = wm at *
  have HI : Hid (IsR wm m h cap B false) := Lib.hid ⟨by rw [HBL.out]; exact HK.out, HR.out, hne⟩
  have hsum := RSum_calls HI.out (fun x hx => by have := HBP.out x hx; omega) (by rw [HS.out]; omega) n (by rw [HBL.out]; omega) (by rw [HBL.out]; omega)
  rw [List.take_of_length_le (by rw [HBL.out]; omega)] at hsum
  have HSm := Lib.hid hsum
  have hS2 := HS.out
  clear hsum
  obtain ⟨sm, hsm⟩ : ∃ sm, lsum B = sm := ⟨_, rfl⟩
  rw [hsm] at HSm hS2 HLn
  obtain ⟨al, hal⟩ : ∃ al, lsum L = al := ⟨_, rfl⟩
  rw [hal] at hS2 hall
  have hsm9 : sm ≤ 8224 := by omega
  have hsmB : Hid (lsum B ≤ 8224) := Lib.hid (by rw [hsm]; omega)
  clear hal hS2 hsm HA HS
  have d0 := HK.out.cell (i := 0) rfl
  by_cases hc : 8192 < sm
  · refine HSm.out.mono ?_
    rintro e w' ⟨rfl, rfl⟩
    go_wp2
    go_loopw [4] (fun v wr => ∃ k : Nat, k ≤ n ∧ v = .int .i64 (k : Int) ∧ Hid (Blk wr m 116 #[.slice (some ⟨h, 0, none⟩) n cap, .bool false]) ∧ Hid (RowI wr 3 .i64 h cap (mix (halve B) B k)) ∧ Hid (Only (fun k => k = m ∨ k = h) w wr)) (fun v _ => n - (intOf v).toNat)
    case atStart => exact ⟨0, by omega, rfl, HK, by rw [mix_zero]; exact HR, HO⟩
    case round =>
      clear HI HSm d0 HR HK HO
      obtain ⟨k, hk, rfl, HK, HR, HO⟩ := hrel
      have e0 := HK.out.cell (i := 0) rfl
      by_cases hlt : k < n
      · have hlen : (halve B).length = B.length := halve_len B
        have e3 := HR.out.cell (i := k) (by rw [mix_len _ _ _ hlen (by rw [hlen, HBL.out]; omega), HBL.out]; omega)
        rw [mix_get _ _ _ hlen (by rw [HBL.out]; omega)] at e3
        have g3 := HR.out.free k
        have HM := Lib.hid (mix_set (halve B) B k hlen (by rw [hlen, HBL.out]; omega))
        have hg := halve_get B k (by rw [HBL.out]; omega) (h' := by rw [hlen, HBL.out]; omega)
        rw [hg] at HM
        have hy1 := HBP.out _ (List.getElem_mem (show k < B.length by rw [HBL.out]; omega))
        have hset : B = L.set s (x + 32) := HBset.out
        have i1 : (k : Int) < n := by omega
        have hy2 : B[k]'(by rw [HBL.out]; omega) ≤ 1000000 := by
          have h1 := lsum_take_le B (fun x hx => by have := HBP.out x hx; omega) k
          have h2 := lsum_take_le B (fun x hx => by have := HBP.out x hx; omega) (k + 1)
          rw [lsum_take_succ B k (by rw [HBL.out]; omega)] at h2
          have := hsmB.out
          omega
        clear hset hg
        generalize B[k]'(by rw [HBL.out]; omega) = y at *
        go_wp2
        go_still_tail 15, (by kernel_rfl)
        go_wp2
        go_roundw
        case rel => exact ⟨k + 1, by omega, by push_cast; rfl, (HK.out.other (a := ⟨h, k, none⟩) hne (.int .i64 ((y + 1) / 2))).drew, by rw [← HM.out]; exact (HR.out.set k _).drew, (HO.out.set (p := ⟨h, k, none⟩) (.inl (.inr rfl)) _).drew⟩
        case measure => simp [intOf]; omega
      · obtain rfl : k = n := by omega
        go_wp2
        rw [HLn.out, if_pos hc]
        have hlen : (halve B).length = B.length := halve_len B
        have hfin : IsR wr m h cap (halve B) false := ⟨by rw [hlen, HBL.out]; exact HK.out, by
          have := HR.out
          rw [← HBL.out, mix_all _ _ hlen] at this
          exact this, hne⟩
        exact bodyPost_end (results_none rfl _ _ _) rfl ⟨rfl, hfin, HO.out⟩
  · refine HSm.out.mono ?_
    rintro e w' ⟨rfl, rfl⟩
    go_wp2
    rw [HLn.out, if_neg (by omega)]
    exact bodyPost_end (results_none rfl _ _ _) rfl ⟨rfl, HI.out, HO.out⟩
set_option maxHeartbeats 2000000 in
set_option maxRecDepth 100000 in
theorem Fixed_yes (L : List Int) (good : Good L) (A0 : Option Addr) (c0 : Nat) (w : World) (hr : Kd.C (Kd.int .u32) w A0 L.length L) (hc : L.length ≤ c0) :
    Calls Try.prog 24 #[.slice A0 L.length c0] w fun e w' => ∃ m h cap, e = .returned (.tuple #[.pointer (some ⟨m, 0, none⟩), .int .i64 0]) ∧ w.heap.size ≤ m ∧ w.heap.size ≤ h ∧ Is w' m h cap L true ∧ Below w.heap.size w w' := by
  have HR := Lib.hid hr
  have G := Lib.hid good
  have h1 := good.len1
  have h2 := good.len2
  obtain ⟨n, hn⟩ : ∃ n, L.length = n := ⟨_, rfl⟩
  have HN := Lib.hid hn
  rw [hn] at h1 h2 hc ⊢
  clear hn hr good
  go_enter Try.func24, Try.ntmps24
  go_wp2
  go_loopw [19] (fun i wr => ∃ (k : Nat) (v : Value), k ≤ n ∧ i = .int .i64 (k : Int) ∧ Hid (Blk wr w.heap.size 107 #[v, .int .u32 (lsum (L.take k)), .bool true]) ∧ Hid (Sl wr 22 .u32 v (L.take k)) ∧ Hid (∀ g, v.ownBlock = some g → w.heap.size < g) ∧ Hid (Below w.heap.size w wr)) (fun v _ => n - (intOf v).toNat)
  case atStart => exact ⟨0, .slice none 0 0, by omega, rfl, Blk.new _ _ _, Sl.nil _ _ _, fun g hg => (by cases hg), ((Below.refl _ _).alloc (Nat.le_refl _) _ : Below _ _ _)⟩
  case round =>
    obtain ⟨k, v, hk, rfl, HM, HS, HNw, HB⟩ := hrel
    by_cases hlt : k < n
    · have d0 := HM.out.cell (i := 0) rfl
      have d1 := HM.out.cell (i := 1) rfl
      have hwr := HM.out.lt
      obtain ⟨ad, rfl, dk⟩ := cell_C HR.out (i := k) (by rw [HN.out]; omega)
      have had : (ad.add k).block < w.heap.size := World.block_lt_of_cell? w _ dk
      rw [← HB.out.cell had] at dk
      have hgk := G.out.at (k := k) (by rw [HN.out]; omega)
      have hall := G.out.all
      have HSum := Lib.hid (lsum_take_succ L k (by rw [HN.out]; omega))
      have HTk := Lib.hid (List.take_succ_eq_append_getElem (show k < L.length by rw [HN.out]; omega))
      have hlk : (L.take k).length = k := by rw [List.length_take, HN.out]; omega
      have HLk := Lib.hid hlk
      generalize L[k]'(by rw [HN.out]; omega) = y at *
      generalize lsum (L.take k) = sm at *
      generalize lsum L = al at *
      clear hlk
      go_wp2
      have f0 := HM.out.free 0
      have f1 := HM.out.free 1
      go_region_law ((refine step_push _ _ _ 22 .u32 0 4 (by rfl) (by rfl) Try.underlying45 info_u32 v (L.take k) k y ⟨wr.heap.size, 0, none⟩ (wr.heap.size + 1) (by rfl) (by rfl) ?_ HLk.out ?_ ?_ ?_ ?_ ?_
                      · exact (HS.out.alloc _).drew
                      · exact (Blk.new wr _ _).cell (i := 0) rfl
                      · simp
                      · omega
                      · omega
                      intro g cap w1 hp
                      have HM1 := Lib.hid ((HM.out.alloc (.cells #[.int .u32 y] 22)).drew.of_same (hp.block (by simp; omega) (fun e => by have := HNw.out _ e; simp at this)))
                      have d0' := HM1.out.cell (i := 0) rfl
                      have d1' := HM1.out.cell (i := 1) rfl
                      have f0' := HM1.out.free 0
                      have f1' := HM1.out.free 1
                      have HP := Lib.hid hp
                      clear hp))
      all_goals
        go_wp2
        go_roundw
        case rel =>
          have hgw : w.heap.size < g := by
            rcases HP.out.at_ with h | h
            · exact HNw.out g h
            · omega
          refine ⟨k + 1, .slice (some ⟨g, 0, none⟩) (k + 1) cap, by omega, by push_cast; rfl, ?_, ?_, fun g' hg' => ?_, ?_⟩
          · rw [HSum.out]
            exact (HM1.out.set 0 _).set 1 _
          · have hrow := HP.out.row
            rw [← HTk.out] at hrow
            have := Sl.row ((hrow.other (a := ⟨w.heap.size, 0, none⟩) (by simp; omega) (.slice (some ⟨g, 0, none⟩) (k + 1) cap)).other (a := ⟨w.heap.size, 1, none⟩) (by simp; omega) (.int .u32 (sm + y)))
            have hl : (L.take (k + 1)).length = k + 1 := by rw [List.length_take, HN.out]; omega
            rw [hl] at this
            exact this
          · have e : g = g' := Option.some.inj hg'
            omega
          · have hA : Below w.heap.size w (wr.alloc (.cells #[.int .u32 y] 22)).drew := (HB.out.alloc HB.out.size _).drew
            exact (((hA.trans (HP.out.only.below (B := w.heap.size) (by simp; omega) (fun i hi => by have := HNw.out i hi; omega))).setCell (p := ⟨w.heap.size, 0, none⟩) (Nat.le_refl _) _).setCell (p := ⟨w.heap.size, 1, none⟩) (Nat.le_refl _) _ : Below _ _ _)
        case measure => simp [intOf]; omega
    · obtain rfl : k = n := by omega
      rw [List.take_of_length_le (by rw [HN.out]; omega)] at HM HS
      have hs := HS.out
      rcases hs with ⟨_, h0⟩ | ⟨g, cap, rfl, hr⟩
      · have := congrArg List.length h0
        rw [HN.out] at this
        simp at this; omega
      · have hg := HNw.out g rfl
        have HRw := Lib.hid hr
        clear hr
        rw [HN.out] at HM
        go_wp2
        go_ret2
        exact ⟨w.heap.size, g, cap, rfl, Nat.le_refl _, by omega, ⟨by rw [HN.out]; exact HM.out, HRw.out, by omega⟩, HB.out⟩
set_option maxHeartbeats 2000000 in
set_option maxRecDepth 100000 in
theorem RFixed_yes (L : List Int) (good : Good L) (A0 : Option Addr) (c0 : Nat) (w : World) (hr : Kd.C (Kd.int .u32) w A0 L.length L) (hc : L.length ≤ c0) :
    Calls Try.prog 25 #[.slice A0 L.length c0] w fun e w' => ∃ m h cap, e = .returned (.tuple #[.pointer (some ⟨m, 0, none⟩), .bool true]) ∧ w.heap.size ≤ m ∧ w.heap.size ≤ h ∧ IsR w' m h cap L true ∧ Below w.heap.size w w' := by
  have HR := Lib.hid hr
  have G := Lib.hid good
  have h1 := good.len1
  have h2 := good.len2
  obtain ⟨n, hn⟩ : ∃ n, L.length = n := ⟨_, rfl⟩
  have HN := Lib.hid hn
  rw [hn] at h1 h2 hc ⊢
  clear hn hr good
  go_enter Try.func25, Try.ntmps25
  go_wp2
  go_loopw [5] (fun i wr => ∃ (k : Nat) (v : Value), k ≤ n ∧ i = .int .i64 (k : Int) ∧ Hid (Blk wr w.heap.size 116 #[v, .bool true]) ∧ Hid (Sl wr 3 .i64 v (L.take k)) ∧ Hid (∀ g, v.ownBlock = some g → w.heap.size < g) ∧ Hid (Below w.heap.size w wr)) (fun v _ => n - (intOf v).toNat)
  case atStart => exact ⟨0, .slice none 0 0, by omega, rfl, Blk.new _ _ _, Sl.nil _ _ _, fun g hg => (by cases hg), ((Below.refl _ _).alloc (Nat.le_refl _) _ : Below _ _ _)⟩
  case round =>
    obtain ⟨k, v, hk, rfl, HM, HS, HNw, HB⟩ := hrel
    by_cases hlt : k < n
    · have d0 := HM.out.cell (i := 0) rfl
      have f0 := HM.out.free 0
      have hwr := HM.out.lt
      obtain ⟨ad, rfl, dk⟩ := cell_C HR.out (i := k) (by rw [HN.out]; omega)
      have had : (ad.add k).block < w.heap.size := World.block_lt_of_cell? w _ dk
      rw [← HB.out.cell had] at dk
      have hgk := G.out.at (k := k) (by rw [HN.out]; omega)
      have hall := G.out.all
      have HTk := Lib.hid (List.take_succ_eq_append_getElem (show k < L.length by rw [HN.out]; omega))
      have hlk : (L.take k).length = k := by rw [List.length_take, HN.out]; omega
      have HLk := Lib.hid hlk
      generalize L[k]'(by rw [HN.out]; omega) = y at *
      generalize lsum (L.take k) = sm at *
      generalize lsum L = al at *
      have hyz : (y == 0) = false := by rw [beq_eq_false_iff_ne]; omega
      have ik : (k : Int) < n := by omega
      have hbk : ad.block < w.heap.size := by rw [add_block] at had; exact had
      have hbk2 : ad.block ≠ w.heap.size := by omega
      have ew : IntKind.i64.wrap y = y := wrapI64 (by omega) (by omega)
      clear hlk
      go_wp2
      go_region_law ((refine step_push _ _ _ 3 .i64 0 8 (by rfl) (by rfl) Try.underlying54 info_int v (L.take k) k y ⟨wr.heap.size, 0, none⟩ (wr.heap.size + 1) (by rfl) (by rfl) ?_ HLk.out ?_ ?_ ?_ ?_ ?_
                      · exact (HS.out.alloc _).drew
                      · exact (Blk.new wr _ _).cell (i := 0) rfl
                      · simp
                      · omega
                      · omega
                      intro g cap w1 hp
                      have HM1 := Lib.hid ((HM.out.alloc (.cells #[.int .i64 y] 3)).drew.of_same (hp.block (by simp; omega) (fun e => by have := HNw.out _ e; simp at this)))
                      have d0' := HM1.out.cell (i := 0) rfl
                      have f0' := HM1.out.free 0
                      have hk' : w1.cell? (ad.add k) = wr.cell? (ad.add k) := (hp.grown.cell_far (ad.add k) (by simp; omega) (fun e => by have := HNw.out _ e.symm; omega)).trans ((((Below.refl _ _).alloc (Nat.le_refl _) _).drew : Below wr.heap.size wr (wr.alloc (.cells #[.int .i64 y] 3)).drew).cell (by omega))
                      rw [dk] at hk'
                      have hk2 : (w1.setCell ⟨w.heap.size, 0, none⟩ (.slice (some ⟨g, 0, none⟩) (k + 1) cap)).cell? (ad.add k) = some (.int .u32 y) := (World.cell?_of_block (Below.heap_setCell w1 ⟨w.heap.size, 0, none⟩ _ _ (by rw [add_block]; exact hbk2))).trans hk'
                      have HP := Lib.hid hp
                      clear hp))
      all_goals
        go_wp2
        go_roundw
        case rel =>
          have hgw : w.heap.size < g := by
            rcases HP.out.at_ with h | h
            · exact HNw.out g h
            · omega
          refine ⟨k + 1, .slice (some ⟨g, 0, none⟩) (k + 1) cap, by omega, by push_cast; rfl, ?_, ?_, fun g' hg' => ?_, ?_⟩
          · exact HM1.out.set 0 _
          · have hrow := HP.out.row
            rw [← HTk.out] at hrow
            have := Sl.row (hrow.other (a := ⟨w.heap.size, 0, none⟩) (by simp; omega) (.slice (some ⟨g, 0, none⟩) (k + 1) cap))
            have hl : (L.take (k + 1)).length = k + 1 := by rw [List.length_take, HN.out]; omega
            rw [hl] at this
            exact this
          · have e : g = g' := Option.some.inj hg'
            omega
          · have hA : Below w.heap.size w (wr.alloc (.cells #[.int .i64 y] 3)).drew := (HB.out.alloc HB.out.size _).drew
            exact ((hA.trans (HP.out.only.below (B := w.heap.size) (by simp; omega) (fun i hi => by have := HNw.out i hi; omega))).setCell (p := ⟨w.heap.size, 0, none⟩) (Nat.le_refl _) _ : Below _ _ _)
        case measure => simp [intOf]; omega
    · obtain rfl : k = n := by omega
      rw [List.take_of_length_le (by rw [HN.out]; omega)] at HS
      have hs := HS.out
      rcases hs with ⟨_, h0⟩ | ⟨g, cap, rfl, hr⟩
      · have := congrArg List.length h0
        rw [HN.out] at this
        simp at this; omega
      · have hg := HNw.out g rfl
        have HRw := Lib.hid hr
        clear hr
        have HI : Hid (IsR wr w.heap.size g cap L true) := Lib.hid ⟨HM.out, HRw.out, by omega⟩
        have hsum := RSum_calls HI.out G.out.nonneg (by have := G.out.all; omega) k (by rw [HN.out]; omega) (by rw [HN.out]; omega)
        rw [List.take_of_length_le (by rw [HN.out]; omega)] at hsum
        have hall := G.out.all
        have HSm := Lib.hid hsum
        clear hsum
        generalize lsum L = al at *
        rw [HN.out] at HM
        go_wp2_with (go_at_call 63; refine HSm.out.mono ?_; rintro e w' ⟨rfl, rfl⟩)
        go_ret2
        exact ⟨w.heap.size, g, cap, rfl, Nat.le_refl _, by omega, HI.out, HB.out⟩
theorem RLearn_any {w : World} {m h cap : Nat} {L : List Int} {f : Bool} (a : IsR w m h cap L f) (good : Good L) (s : Nat) (hs : s < L.length) :
    Calls Try.prog 64 #[.pointer (some ⟨m, 0, none⟩), .int .i64 s] w fun e w' => e = .returned (.tuple #[]) ∧ IsR w' m h cap (next f L s) f ∧ Only (fun k => k = m ∨ k = h) w w' := by
  cases f with
  | true =>
    refine (RLearn_fixed a s).mono ?_
    rintro e w' ⟨rfl, rfl⟩
    exact ⟨rfl, a, Only.refl _ _⟩
  | false => exact RLearn_yes a good s hs
end Go.Proofs.Ytlbjoflmfboeeaa.Mdl
