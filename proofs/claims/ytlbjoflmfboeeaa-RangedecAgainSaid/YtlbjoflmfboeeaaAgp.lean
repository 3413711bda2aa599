/-
  Symbols and bits, one behind the other: encoder and decoder. Plain theorems; no condition but those told.
-/
import Derived.Test.YtlbjoflmfboeeaaInv
import Derived.Test.YtlbjoflmfboeeaaU4
set_option linter.unusedVariables false
namespace Go.Proofs.Ytlbjoflmfboeeaa.Deco
open Go.RowKit Go.Proofs.Ytlbjoflmfboeeaa Go.Proofs.Ytlbjoflmfboeeaa.Dig

/-- One act: a symbol, and sixteen bits, if it is divisible by three. -/
def stp (n : Nat) (P : Enc.RSt × List Int) (c : Int) : Enc.RSt × List Int :=
  (if c % 3 = 0 then Enc.rbitsS (Enc.rsymS P.1 P.2 (c % n).toNat) c 16 else Enc.rsymS P.1 P.2 (c % n).toNat, Mdl.next false P.2 (c % n).toNat)
def run (n : Nat) (ls : List Int) : Enc.RSt × List Int := ls.foldl (stp n) (Enc.rfresh, List.replicate n 1)
theorem run_nil (n : Nat) : run n [] = (Enc.rfresh, List.replicate n 1) := rfl
theorem run_succ (n : Nat) (ls : List Int) (k : Nat) (hk : k < ls.length) : run n (ls.take (k + 1)) = stp n (run n (ls.take k)) ls[k] := by
  unfold run
  rw [List.take_succ_eq_append_getElem hk, List.foldl_append]; rfl
theorem mod_lt {n : Nat} (h : 1 ≤ n) (c : Int) : (c % n).toNat < n := by
  have h1 := Int.emod_nonneg c (show (n : Int) ≠ 0 by omega)
  have h2 := Int.emod_lt_of_pos c (show (0 : Int) < n by omega)
  omega
structure Fine (n : Nat) (P : Enc.RSt × List Int) : Prop where
  g : Enc.RGood P.1
  good : Mdl.Good P.2
  len : P.2.length = n
theorem run_fine {n : Nat} (h1 : 1 ≤ n) (h2 : n ≤ 64) (ls : List Int) : Fine n (run n ls) ∧ (run n ls).1.K ≤ 6 * ls.length := by
  have key : ∀ (ls : List Int) (P : Enc.RSt × List Int), Fine n P → Fine n (ls.foldl (stp n) P) ∧ (ls.foldl (stp n) P).1.K ≤ P.1.K + 6 * ls.length := by
    intro ls
    induction ls with
    | nil => intro P h; exact ⟨h, by simp⟩
    | cons c l ih =>
      intro P h
      have hk : (c % n).toNat < P.2.length := by rw [h.len]; exact mod_lt h1 c
      have a := Enc.rsymS_good h.g h.good hk
      have b := Enc.rbitsS_good a.1 c 16 (by decide)
      have hf : Fine n (stp n P c) := by
        refine ⟨?_, h.good.next false _ hk, ?_⟩
        · show Enc.RGood (if c % 3 = 0 then _ else _)
          split
          · exact b.1
          · exact a.1
        · show (Mdl.next false P.2 _).length = n
          rw [Mdl.next_len, h.len]
      have hK : (stp n P c).1.K ≤ P.1.K + 6 := by
        show (if c % 3 = 0 then Enc.rbitsS (Enc.rsymS P.1 P.2 (c % n).toNat) c 16 else Enc.rsymS P.1 P.2 (c % n).toNat).K ≤ _
        split
        · have := b.2.2; have := a.2.2; omega
        · have := a.2.2; omega
      have r := ih _ hf
      refine ⟨r.1, ?_⟩
      have := r.2
      simp only [List.foldl_cons, List.length_cons]
      omega
  have := key ls (Enc.rfresh, List.replicate n 1) ⟨Enc.rfresh_good, Mdl.good_new n h1 h2, List.length_replicate⟩
  refine ⟨this.1, ?_⟩
  have h := this.2
  have e : (Enc.rfresh, List.replicate n (1 : Int)).1.K = 0 := rfl
  rw [e] at h
  unfold run
  omega
theorem stp_back {bs : List Int} (hb : ∀ x ∈ bs, 0 ≤ x ∧ x ≤ 255) {n : Nat} (h1 : 1 ≤ n) {P : Enc.RSt × List Int} (f : Fine n P) {c : Int} (h : Inside bs (stp n P c).1) :
    Inside bs (Enc.rsymS P.1 P.2 (c % n).toNat) ∧ Inside bs P.1 := by
  have hk : (c % n).toNat < P.2.length := by rw [f.len]; exact mod_lt h1 c
  have a := Enc.rsymS_good f.g f.good hk
  have hi : Inside bs (Enc.rsymS P.1 P.2 (c % n).toNat) := by
    have h' : Inside bs (if c % 3 = 0 then Enc.rbitsS (Enc.rsymS P.1 P.2 (c % n).toNat) c 16 else Enc.rsymS P.1 P.2 (c % n).toNat) := h
    split at h'
    · exact bits_back hb a.1 c 16 (by decide) h'
    · exact h'
  exact ⟨hi, sym_back hb f.g f.good hk hi⟩
theorem run_back {bs : List Int} (hb : ∀ x ∈ bs, 0 ≤ x ∧ x ≤ 255) {n : Nat} (h1 : 1 ≤ n) (h2 : n ≤ 64) (ls : List Int) (h : Inside bs (run n ls).1) (k : Nat) (hk : k ≤ ls.length) : Inside bs (run n (ls.take k)).1 := by
  obtain ⟨j, hj⟩ : ∃ j, k + j = ls.length := ⟨ls.length - k, by omega⟩
  induction j generalizing k with
  | zero => rw [List.take_of_length_le (by omega)]; exact h
  | succ j ih =>
    have := ih (k + 1) (by omega) (by omega)
    rw [run_succ n ls k (by omega)] at this
    exact (stp_back hb h1 (run_fine h1 h2 _).1 this).2
/-- The bytes themselves, with whatever behind. -/
theorem inside_own {R : Enc.RSt} (g : Enc.RGood R) (bs : List Int) (h : ∀ i, i < R.K + 4 → bs.getD i 0 = R.D.getD i 0) : Inside bs R := by
  unfold Inside
  rw [X_congr bs R.D _ h, show R.K + 4 = R.D.length from g.len.symm, X_all]
  have := g.s0
  omega
theorem strip_getD (l : List Int) (i : Nat) : (Enc.strip l).getD i 0 = l.getD i 0 := by
  obtain ⟨n, hn⟩ := Enc.strip_pre l
  conv => rhs; rw [hn]
  rw [getD_zeros]
theorem wf_u16 {n : Int} (h : (Lit.int .u16 n).wf = true) : 0 ≤ n ∧ n ≤ 65535 := by
  simp only [Lit.wf, Bool.and_eq_true, decide_eq_true_eq] at h
  have e1 : IntKind.min .u16 = 0 := by decide
  have e2 : IntKind.max .u16 = 65535 := by decide
  rw [e1, e2] at h
  exact h
end Go.Proofs.Ytlbjoflmfboeeaa.Deco
