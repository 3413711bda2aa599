/-
  Plain laws of energy.Ceilings, of the reference's, and of Right; no condition.
-/
import Derived.Test.YtoooienmcogbhaaU1
import Derived.Test.YtoooienmcogbhaaPEnergyCeilingsx1
import Derived.Test.YtoooienmcogbhaaPEnergyCeilingsx2
import Derived.Test.YtoooienmcogbhaaPEnergyCeilingsx3
set_option linter.unusedVariables false
set_option linter.unusedSimpArgs false
namespace Go.Proofs.Ytoooienmcogbhaa.Pure
open Go.RowKit Go.Proofs.Ytoooienmcogbhaa Go.Proofs.Ytoooienmcogbhaa.PEnergyCeilings Go.Proofs.Ytoooienmcogbhaa.Ceil Go.Proofs.YtoooienmcogbhaaW.PrintWords Go.Proofs.YtoooienmcogbhaaW.PrintLast Go.Proofs.YtoooienmcogbhaaW.PrintMore

theorem ceil_eq (l : List Int) (hl : l.length = 512) (hi : ∀ x ∈ l, I32 x) : energy_Ceilings.f l = some (ceils l, 0) := by
  show fC l = _
  unfold fC
  rw [if_pos hl, if_pos hi]
theorem ceil_no (l : List Int) (hl : l.length ≠ 512) : energy_Ceilings.f l = some ([], 1) := by
  show fC l = _
  unfold fC
  rw [if_neg hl]
/-- May ceilings be? -/
def rightB (l : List Int) : Bool := l.all (fun x => decide (0 ≤ x ∧ x ≤ 26)) && decide (l.length = 21)
theorem all_drop (l : List Int) (j : Nat) (h : j < l.length) (p : Int → Bool) : (l.drop j).all p = (p l[j] && (l.drop (j + 1)).all p) := by
  rw [List.drop_eq_getElem_cons h, List.all_cons]
theorem right_l (l : List Int) (hl : l.length ≤ 1000000) (d : Nat) : ∀ (k j : Nat), j + d = l.length → d < k → energy_Right.l0 k l l (l.length : Int) (j : Int) = some ((l.drop j).all (fun x => decide (0 ≤ x ∧ x ≤ 26)) && decide (l.length = 21)) := by
  induction d with
  | zero =>
    intro k j hj hk
    obtain ⟨k, rfl⟩ : ∃ m, k = m + 1 := ⟨k - 1, by omega⟩
    simp only [energy_Right.l0]
    rw [if_neg (by omega), List.drop_of_length_le (by omega)]
    simp only [List.all_nil, Bool.true_and]
    congr 1
    rw [Bool.eq_iff_iff, beq_iff_eq, decide_eq_true_eq]; omega
  | succ d ih =>
    intro k j hj hk
    obtain ⟨k, rfl⟩ : ∃ m, k = m + 1 := ⟨k - 1, by omega⟩
    have hjl : j < l.length := by omega
    simp only [energy_Right.l0]
    rw [if_pos (by omega), if_pos (by omega), if_pos (by omega), rd_nat l j hjl, all_drop l j hjl, w64 (x := (j : Int) + 1) (by omega) (by omega), show ((j : Int) + 1) = ((j + 1 : Nat) : Int) from rfl, ih k (j + 1) (by omega) (by omega)]
    split
    · rw [show decide (0 ≤ l[j] ∧ l[j] ≤ 26) = false from by simp; omega]; rfl
    · split
      · rw [show decide (0 ≤ l[j] ∧ l[j] ≤ 26) = false from by simp; omega]; rfl
      · rw [show decide (0 ≤ l[j] ∧ l[j] ≤ 26) = true from by simp; omega]; rfl
theorem right_eq (k : Nat) (l : List Int) (hl : l.length ≤ 1000000) (hk : l.length < k) : energy_Right.f k l = some (rightB l) := by
  unfold energy_Right.f rightB
  have := right_l l hl l.length k 0 (by omega) hk
  simpa using this
theorem rright_l (l : List Int) (hl : l.length ≤ 1000000) (d : Nat) : ∀ (k j : Nat), j + d = l.length → d < k → sidebandref10_Right.l0 k l (j : Int) = some ((l.drop j).all (fun x => decide (0 ≤ x ∧ x ≤ 26)) && decide (l.length = 21)) := by
  induction d with
  | zero =>
    intro k j hj hk
    obtain ⟨k, rfl⟩ : ∃ m, k = m + 1 := ⟨k - 1, by omega⟩
    simp only [sidebandref10_Right.l0]
    rw [if_neg (by omega), List.drop_of_length_le (by omega)]
    simp only [List.all_nil, Bool.true_and]
    congr 1
    rw [Bool.eq_iff_iff, beq_iff_eq, decide_eq_true_eq]; omega
  | succ d ih =>
    intro k j hj hk
    obtain ⟨k, rfl⟩ : ∃ m, k = m + 1 := ⟨k - 1, by omega⟩
    have hjl : j < l.length := by omega
    simp only [sidebandref10_Right.l0]
    rw [if_pos (by omega), if_pos (by omega), rd_nat l j hjl, all_drop l j hjl, w64 (x := (j : Int) + 1) (by omega) (by omega), show ((j : Int) + 1) = ((j + 1 : Nat) : Int) from rfl, ih k (j + 1) (by omega) (by omega)]
    split
    · rw [show decide (0 ≤ l[j] ∧ l[j] ≤ 26) = false from by simp; omega]; rfl
    · split
      · rw [show decide (0 ≤ l[j] ∧ l[j] ≤ 26) = false from by simp; omega]; rfl
      · rw [show decide (0 ≤ l[j] ∧ l[j] ≤ 26) = true from by simp; omega]; rfl
theorem rright_eq (k : Nat) (l : List Int) (hl : l.length ≤ 1000000) (hk : l.length < k) : sidebandref10_Right.f k l = some (rightB l) := by
  unfold sidebandref10_Right.f rightB
  have := rright_l l hl l.length k 0 (by omega) hk
  simpa using this
theorem bits_l (d : Nat) : ∀ (k : Nat) (x c : Int), 0 ≤ x → x < 2 ^ d → 0 ≤ c → c + d ≤ 100 → d ≤ 62 → d < k → sidebandref10_Bits.l0 k x c = some (c + blen x) := by
  induction d with
  | zero =>
    intro k x c h0 h1 c0 c1 hd hk
    obtain ⟨k, rfl⟩ : ∃ m, k = m + 1 := ⟨k - 1, by omega⟩
    obtain rfl : x = 0 := by omega
    simp only [sidebandref10_Bits.l0]
    rw [if_neg (by omega)]; simp [blen]
  | succ d ih =>
    intro k x c h0 h1 c0 c1 hd hk
    obtain ⟨k, rfl⟩ : ∃ m, k = m + 1 := ⟨k - 1, by omega⟩
    rw [pw_succ] at h1
    have hp : (2 : Int) ^ d ≤ 2 ^ 61 := pw_le (by omega)
    simp only [sidebandref10_Bits.l0]
    by_cases hx : x > 0
    · rw [if_pos hx, Int.tdiv_eq_ediv_of_nonneg h0, w64 (x := x / 2) (by omega) (by omega), w64 (x := c + 1) (by omega) (by omega), ih k (x / 2) (c + 1) (by omega) (by omega) (by omega) (by omega) (by omega) (by omega)]
      by_cases h2 : x = 1
      · subst h2
        rw [show blen (1 / 2) = 0 from by decide, show blen 1 = 1 from by decide]; simp
      · have := blen_div x 1 (by rw [show ((2 : Int) ^ 1) = 2 from by decide]; omega)
        rw [show ((2 : Int) ^ 1) = 2 from by decide] at this
        congr 1; omega
    · rw [if_neg hx]
      obtain rfl : x = 0 := by omega
      simp [blen]
theorem bits_eq (k : Nat) (hk : 40 ≤ k) (x : Int) (h : I32 x) : sidebandref10_Bits.f k x = some (mag x) := by
  unfold I32 at h
  obtain ⟨k, rfl⟩ : ∃ m, k = m + 1 := ⟨k - 1, by omega⟩
  unfold sidebandref10_Bits.f mag
  by_cases hx : x < 0
  · rw [if_pos hx, w64 (x := -x) (by omega) (by omega)]
    simp only [sidebandref10_Bits.j0]
    rw [bits_l 32 k (-x) 0 (by omega) (by omega) (by omega) (by omega) (by omega) (by omega), Int.zero_add, show ((x.natAbs : Nat) : Int) = -x from by omega]
  · rw [if_neg hx]
    simp only [sidebandref10_Bits.j0]
    rw [bits_l 32 k x 0 (by omega) (by omega) (by omega) (by omega) (by omega) (by omega), Int.zero_add, show ((x.natAbs : Nat) : Int) = x from by omega]
theorem redges (k : Nat) (hk : 200 ≤ k) : sidebandref04_Edges.f k = some edges :=
  at_rounds (g := fun k => sidebandref04_Edges.f k) (fun k => sidebandref04_Edges.mono k) hk (by decide +kernel)
theorem rceil_in (l : List Int) (hl : l.length = 512) (hi : ∀ x ∈ l, I32 x) (d : Nat) : ∀ (k : Nat) (out : List Int) (i j : Nat), out.length = 21 → i < 21 → j + d = edge (i + 1) → 40 ≤ k →
    sidebandref10_Ceilings.l1 (k + d + 1) l edges out (i : Int) (j : Int) = sidebandref10_Ceilings.l0 k l edges (out.set i (most ((l.take (edge (i + 1))).drop j) (rd out (i : Int)))) ((i : Int) + 1) := by
  induction d with
  | zero =>
    intro k out i j ho hi' hj hk
    have e2 := edges_ok ⟨i + 1, by omega⟩
    simp only at e2
    have hlen : (edges.length : Int) = 22 := by decide
    simp only [Nat.add_zero, sidebandref10_Ceilings.l1]
    rw [w64 (x := (i : Int) + 1) (by omega) (by omega), if_pos (by omega), if_pos (by omega), show ((i : Int) + 1) = ((i + 1 : Nat) : Int) from rfl, e2.1, if_neg (by omega), List.drop_of_length_le (by rw [List.length_take]; omega)]
    unfold most
    rw [List.foldl_nil, set_same _ _ (by omega)]
  | succ d ih =>
    intro k out i j ho hi' hj hk
    have e2 := edges_ok ⟨i + 1, by omega⟩
    simp only at e2
    have hlen : (edges.length : Int) = 22 := by decide
    obtain ⟨K, hK⟩ : ∃ K, K = k + d + 1 := ⟨_, rfl⟩
    rw [show k + (d + 1) + 1 = K + 1 from by omega]
    simp only [sidebandref10_Ceilings.l1]
    have hjl : j < l.length := by omega
    have hb := bits_eq K (by omega) l[j] (hi _ (List.getElem_mem hjl))
    rw [w64 (x := (i : Int) + 1) (by omega) (by omega), w64 (x := (j : Int) + 1) (by omega) (by omega), if_pos (by omega), if_pos (by omega), show ((i : Int) + 1) = ((i + 1 : Nat) : Int) from rfl, e2.1, if_pos (by omega), if_pos (by omega), if_pos (by omega), rd_nat l j hjl, hb]
    simp only [Option.bind_some, Int.toNat_natCast]
    rw [if_pos (by omega), if_pos (by omega)]
    have hdrop : (l.take (edge (i + 1))).drop j = l[j] :: (l.take (edge (i + 1))).drop (j + 1) := by
      rw [List.drop_eq_getElem_cons (by rw [List.length_take]; omega), List.getElem_take]
    rw [hdrop]
    have hm : ∀ m, most (l[j] :: (l.take (edge (i + 1))).drop (j + 1)) m = most ((l.take (edge (i + 1))).drop (j + 1)) (mx m (mag l[j])) := fun m => rfl
    rw [hm]
    unfold mx
    by_cases hg : mag l[j] > rd out (i : Int)
    · rw [if_pos hg, if_pos (by omega)]
      have := ih k (out.set i (mag l[j])) i (j + 1) (by simpa using ho) hi' (by omega) hk
      rw [hK, show ((j : Int) + 1) = ((j + 1 : Nat) : Int) from rfl, this, List.set_set, rd_set _ _ _ (by omega)]; rfl
    · rw [if_neg hg, if_neg (by omega)]
      have := ih k out i (j + 1) ho hi' (by omega) hk
      rw [hK, show ((j : Int) + 1) = ((j + 1 : Nat) : Int) from rfl, this]; rfl
theorem rceil_out (l : List Int) (hl : l.length = 512) (hi : ∀ x ∈ l, I32 x) (d : Nat) : ∀ (k : Nat) (out : List Int) (i : Nat), out.length = 21 → i + d = 21 → 600 * d + 50 < k →
    sidebandref10_Ceilings.l0 k l edges out (i : Int) = some (ceilsFrom l d out i) := by
  induction d with
  | zero =>
    intro k out i ho hd hk
    obtain ⟨k, rfl⟩ : ∃ m, k = m + 1 := ⟨k - 1, by omega⟩
    simp only [sidebandref10_Ceilings.l0]
    rw [if_neg (by omega)]; rfl
  | succ d ih =>
    intro k out i ho hd hk
    have e1 := edges_ok ⟨i, by omega⟩
    have e2 := edges_ok ⟨i + 1, by omega⟩
    have e3 := edges_up ⟨i, by omega⟩
    simp only at e1 e2 e3
    obtain ⟨k, rfl⟩ : ∃ m, k = m + 1 := ⟨k - 1, by omega⟩
    simp only [sidebandref10_Ceilings.l0]
    have hlen : (edges.length : Int) = 22 := by decide
    rw [e1.1, hlen, if_pos (by omega), if_pos (by omega), if_pos (by omega)]
    obtain ⟨m, hm⟩ : ∃ m, k = m + (edge (i + 1) - edge i) + 1 := ⟨k - (edge (i + 1) - edge i) - 1, by omega⟩
    rw [hm, rceil_in l hl hi (edge (i + 1) - edge i) m out i (edge i) ho (by omega) (by omega) (by omega)]
    exact ih m (one l out i) (i + 1) (by unfold one; simpa using ho) (by omega) (by omega)
theorem rceil_eq (k : Nat) (hk : 13000 ≤ k) (l : List Int) (hl : l.length = 512) (hi : ∀ x ∈ l, I32 x) : sidebandref10_Ceilings.f k l = some (ceils l) := by
  unfold sidebandref10_Ceilings.f
  rw [redges k (by omega)]
  simp only [Option.bind_some]
  rw [if_pos (by decide)]
  exact rceil_out l hl hi 21 k _ 0 (by simp) (by omega) (by omega)
theorem lives_k (k : Nat) (hk : 13000 ≤ k) : sidebandlaw10_lives.f k = some true := by
  unfold sidebandlaw10_lives.f
  rw [if_pos (by decide)]
  simp only [Option.bind_some]
  rw [if_pos (by rw [List.length_replicate]; omega), ceil_eq _ (by rw [List.length_set, List.length_replicate]) (by decide +kernel)]
  simp only [Option.bind_some]
  have hc : ceils ((List.replicate 512 (0 : Int)).set (9 : Int).toNat (-5)) = [0, 0, 3, 0, 0, 0, 0, 0, 0, 0, 0, 0, 0, 0, 0, 0, 0, 0, 0, 0, 0] := by decide +kernel
  rw [hc, right_eq k _ (by show (21 : Nat) ≤ 1000000; omega) (by show (21 : Nat) < k; omega)]
  decide +kernel
theorem eq_l (a : List Int) (hl : a.length ≤ 1000) (d : Nat) : ∀ (k j : Nat), j + d = a.length → d < k → slices_Equal_int_int.l0 k a a (a.length : Int) (j : Int) = some true := by
  induction d with
  | zero =>
    intro k j hj hk
    obtain ⟨k, rfl⟩ : ∃ m, k = m + 1 := ⟨k - 1, by omega⟩
    simp only [slices_Equal_int_int.l0]
    rw [if_neg (by omega)]
  | succ d ih =>
    intro k j hj hk
    obtain ⟨k, rfl⟩ : ∃ m, k = m + 1 := ⟨k - 1, by omega⟩
    simp only [slices_Equal_int_int.l0]
    rw [if_pos (by omega), if_pos (by omega), if_pos (by omega), if_pos trivial, if_pos (by omega), w64 (x := (j : Int) + 1) (by omega) (by omega), show ((j : Int) + 1) = ((j + 1 : Nat) : Int) from rfl]
    exact ih k (j + 1) (by omega) (by omega)
theorem equal_self (k : Nat) (a : List Int) (hl : a.length ≤ 1000) (hk : a.length < k) : slices_Equal_int_int.f k a a = some true := by
  unfold slices_Equal_int_int.f
  rw [if_pos rfl]
  exact eq_l a hl a.length k 0 (by omega) hk
theorem shr_bd (x : Int) (h : I32 x) (n : Int) : I32 (shr .i32 x n) := by
  unfold shr I32 at *
  have hp := pw_pos (min n.toNat IntKind.i32.bits)
  generalize (2 : Int) ^ (min n.toNat IntKind.i32.bits) = d at *
  constructor
  · rw [Int.le_ediv_iff_mul_le (by omega)]
    have : (-2147483648 : Int) * d ≤ -2147483648 * 1 := Int.mul_le_mul_of_nonpos_left (by decide) (by omega)
    omega
  · rw [Int.ediv_lt_iff_lt_mul (by omega)]
    have : (2147483648 : Int) * 1 ≤ 2147483648 * d := Int.mul_le_mul_of_nonneg_left (by omega) (by decide)
    omega
theorem rd_I32 (l : List Int) (hl : ∀ x ∈ l, I32 x) (i : Int) : I32 (rd l i) := by
  unfold rd
  by_cases h : i.toNat < l.length
  · rw [List.getD_eq_getElem?_getD, List.getElem?_eq_getElem h]; exact hl _ (List.getElem_mem h)
  · rw [List.getD_eq_getElem?_getD, List.getElem?_eq_none (by omega)]; unfold I32; simp
theorem set_I32 (l : List Int) (hl : ∀ x ∈ l, I32 x) (i : Nat) (v : Int) (hv : I32 v) : ∀ x ∈ l.set i v, I32 x := by
  intro x hx
  rcases List.mem_or_eq_of_mem_set hx with h | h
  · exact hl x h
  · rw [h]; exact hv
end Go.Proofs.Ytoooienmcogbhaa.Pure
