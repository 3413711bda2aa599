/-
  The document's encoder: what it holds, and the walks of New, power, Put; no condition but those told.
-/
import Derived.Test.YtlbjoflmfboeeaaEnb
import Derived.Test.YtlbjoflmfboeeaaDig
set_option linter.unusedVariables false
set_option linter.unusedSimpArgs false
namespace Go.Proofs.Ytlbjoflmfboeeaa.Enc
open Go.RowKit Go.Proofs.Ytlbjoflmfboeeaa Go.Proofs.YtlbjoflmfboeeaaW.PrintWords Go.Proofs.Ytlbjoflmfboeeaa.Dig

structure RSt where
  D : List Int
  S : Int
  K : Nat
def rstep (R : RSt) : RSt := ⟨R.D ++ [0], R.S * 256, R.K + 1⟩
def rnorm : Nat → RSt → RSt
  | 0, R => R
  | n + 1, R => if R.S < 16777216 then rnorm n (rstep R) else R
def rputS (R : RSt) (lo ow al : Int) : RSt := rnorm 2 ⟨carF (R.K + 3) (addF 4 R.D R.K (R.S / al * lo)) R.K, R.S / al * ow, R.K⟩
structure RGood (R : RSt) : Prop where
  len : R.D.length = R.K + 4
  dig : ∀ x ∈ R.D, 0 ≤ x ∧ x ≤ 255
  s0 : 16777216 ≤ R.S
  s1 : R.S < 4294967296
  val : vl R.D + R.S ≤ 256 ^ (R.K + 4)
theorem rnorm_good (n : Nat) (hn : n ≤ 2) : ∀ (R : RSt), R.D.length = R.K + 4 → (∀ x ∈ R.D, 0 ≤ x ∧ x ≤ 255) → lw n ≤ R.S → R.S < 4294967296 → vl R.D + R.S ≤ 256 ^ (R.K + 4) → RGood (rnorm n R) ∧ R.K ≤ (rnorm n R).K ∧ (rnorm n R).K ≤ R.K + n := by
  induction n with
  | zero => intro R h1 h2 h3 h4 h5; exact ⟨⟨h1, h2, h3, h4, h5⟩, Nat.le_refl _, Nat.le_refl _⟩
  | succ n ih =>
    intro R h1 h2 h3 h4 h5
    unfold rnorm
    by_cases hc : R.S < 16777216
    · rw [if_pos hc]
      have hlw2 : lw n ≤ R.S * 256 := by
        rcases (show n = 0 ∨ n = 1 by omega) with h | h
        · subst h; have : (65536 : Int) ≤ R.S := h3; show (16777216 : Int) ≤ _; omega
        · subst h; have : (256 : Int) ≤ R.S := h3; show (65536 : Int) ≤ _; omega
      obtain ⟨r1, r2, r3⟩ := ih (by omega) (rstep R) (by simp [rstep, h1]) (fun x hx => by
        rcases List.mem_append.1 hx with hx | hx
        · exact h2 x hx
        · simp at hx; omega) hlw2 (by show R.S * 256 < 4294967296; omega) (by
        show vl (R.D ++ [0]) + R.S * 256 ≤ 256 ^ (R.K + 1 + 4)
        rw [vl_snoc, show R.K + 1 + 4 = R.K + 4 + 1 from by omega, Int.pow_succ]
        omega)
      have hk : (rstep R).K = R.K + 1 := rfl
      exact ⟨r1, by omega, by omega⟩
    · rw [if_neg hc]
      exact ⟨⟨h1, h2, by omega, h4, h5⟩, Nat.le_refl _, by omega⟩
theorem adds_of {D : List Int} (h : ∀ x ∈ D, 0 ≤ x ∧ x ≤ 255) (K n : Nat) : Adds D K n :=
  ⟨fun x hx => (h x hx).1, fun j hj _ => (h _ (List.getElem_mem hj)).2, fun x hx => by have := (h x hx).2; omega⟩
theorem mid_of {R : RSt} (g : RGood R) (a : Int) : Mid (addF 4 R.D R.K a) R.K (R.K + 3) := by
  have h := addF_ok 4 (by omega) R.D R.K a g.len (adds_of g.dig _ _)
  exact h.mid (by rw [addF_len]; exact g.len)
theorem rput_good {R : RSt} (g : RGood R) {lo ow al : Int} (may : May lo ow al) : RGood (rputS R lo ow al) ∧ R.K ≤ (rputS R lo ow al).K ∧ (rputS R lo ow al).K ≤ R.K + 2 := by
  obtain ⟨p0, p1, p2, p3⟩ := may
  obtain ⟨each, hE⟩ : ∃ each, each = R.S / al := ⟨_, rfl⟩
  have s0 := g.s0
  have s1 := g.s1
  have b3 := each_lo al R.S (by omega) p3 s0
  have b1 := mul_bd each lo al R.S hE (by omega) p0 (by omega) (by omega)
  have b2 := mul_bd each ow al R.S hE (by omega) (by omega) (by omega) (by omega)
  have b6 := mul_bd each (lo + ow) al R.S hE (by omega) (by omega) (by omega) (by omega)
  rw [Int.mul_add] at b6
  have b4 : each * 1 ≤ each * ow := Int.mul_le_mul_of_nonneg_left p1 (by omega)
  rw [Int.mul_one] at b4
  have hv : vl (addF 4 R.D R.K (each * lo)) = vl R.D + each * lo := by
    have := addF_vl 4 (by omega) R.D R.K (each * lo) g.len b1.1 (by show each * lo < 4294967296; omega)
    simpa using this
  have hl : (addF 4 R.D R.K (each * lo)).length = R.K + 4 := by rw [addF_len]; exact g.len
  have hgv := g.val
  have hlt : vl (addF 4 R.D R.K (each * lo)) < 256 ^ (addF 4 R.D R.K (each * lo)).length := by
    rw [hv, hl]; omega
  have hok := carF_ok (R.K + 3) _ R.K (mid_of g (each * lo)) (by omega) hlt
  have hcv := carF_vl (R.K + 3) (addF 4 R.D R.K (each * lo)) R.K (by omega)
  unfold rputS
  rw [← hE] at b3 ⊢
  exact rnorm_good 2 (by omega) ⟨carF (R.K + 3) (addF 4 R.D R.K (each * lo)) R.K, each * ow, R.K⟩ (by simp only; rw [carF_len]; exact hl) hok (by show (256 : Int) ≤ each * ow; omega) (by simp only; omega) (by simp only; rw [hcv, hv]; omega)
/-- The document's encoder: block m, its digits in block g. -/
structure RIs (w : World) (m : Nat) (R : RSt) (g cap : Nat) : Prop where
  blk : Blk w m 56 #[.slice (some ⟨g, 0, none⟩) R.D.length cap, .int .i64 R.S, .int .i64 R.K]
  row : RowI w 3 .i64 g cap R.D
  ne : m ≠ g
structure RStep (m g g' : Nat) (w w' : World) : Prop where
  only : Only (fun k => k = m ∨ k = g) w w'
  own : g' = g ∨ w.heap.size ≤ g'
theorem RStep.refl (m g : Nat) (w : World) : RStep m g g w w := ⟨Only.refl _ _, .inl rfl⟩
theorem RStep.trans {m g g' g'' : Nat} {w w' w'' : World} (a : RStep m g g' w w') (b : RStep m g' g'' w' w'') : RStep m g g'' w w'' := by
  refine ⟨a.only.then b.only fun i hi => ?_, ?_⟩
  · rcases hi with hi | hi
    · exact .inl (.inl hi)
    · rcases a.own with h | h
      · exact .inl (.inr (hi.trans h))
      · exact .inr (by omega)
  · rcases b.own with h | h
    · rw [h]; exact a.own
    · exact .inr (Nat.le_trans a.only.size h)
theorem RStep.drew {m g g' : Nat} {w w' : World} (a : RStep m g g' w w') : RStep m g g' w w'.drew := ⟨a.only.drew, a.own⟩
theorem RStep.setm {m g g' : Nat} {w w' : World} (a : RStep m g g' w w') (i : Nat) (u : Value) : RStep m g g' w (w'.setCell ⟨m, i, none⟩ u) := ⟨a.only.set (p := ⟨m, i, none⟩) (.inl (.inl rfl)) u, a.own⟩
theorem RStep.setg {m g g' : Nat} {w w' : World} (a : RStep m g g' w w') (i : Nat) (u : Value) : RStep m g g' w (w'.setCell ⟨g', i, none⟩ u) :=
  ⟨a.only.set (p := ⟨g', i, none⟩) (a.own.imp (fun h => .inr h) id) u, a.own⟩
theorem RIs.only {S : Nat → Prop} {w w' : World} {m g cap : Nat} {R : RSt} (a : RIs w m R g cap) (o : Only S w w') (h1 : ¬ S m) (h2 : ¬ S g) : RIs w' m R g cap :=
  ⟨a.blk.of_same (o.block m a.blk.lt h1), a.row.of_same (o.block g a.row.lt h2), a.ne⟩
def rfresh : RSt := ⟨[0, 0, 0, 0], 4294967295, 0⟩
theorem rfresh_good : RGood rfresh := ⟨rfl, by decide, by decide, by decide, by decide⟩
theorem RNew_calls (w : World) : Calls Try.prog 26 #[] w fun e w' => e = .returned (.pointer (some ⟨w.heap.size + 1, 0, none⟩)) ∧ RIs w' (w.heap.size + 1) rfresh w.heap.size 4 ∧ Below w.heap.size w w' := by
  go_enter Try.func26, Try.ntmps26
  go_wp2
  go_ret
  refine ⟨rfl, ⟨Blk.new_at _ _ (by simp), ⟨_, (Blk.new w _ _).alloc _, by decide, by decide, rfl, fun i h => ?_⟩, by omega⟩, (((Below.refl _ _).alloc (Nat.le_refl _) _).alloc (by simp) _ : Below _ _ _)⟩
  have : i < 4 := h
  match i, this with
  | 0, _ => rfl
  | 1, _ => rfl
  | 2, _ => rfl
  | 3, _ => rfl
theorem power_calls (k : Nat) (hk : k ≤ 60) (w : World) : Calls Try.prog 65 #[.int .i64 k] w fun e w' => e = .returned (.int .i64 (2 ^ k)) ∧ w' = w := by
  go_enter Try.func65, Try.ntmps65
  go_wp2
  go_loop [3, 4] (fun v i => ∃ j : Nat, j ≤ k ∧ i = .int .i64 (j : Int) ∧ v = .int .i64 (2 ^ j)) (fun _ i => k - (intOf i).toNat)
  case atStart => exact ⟨0, by omega, rfl, rfl⟩
  case round =>
    obtain ⟨j, hj, rfl, rfl⟩ := hrel
    by_cases hlt : j < k
    · have h4 := Nat.pow_le_pow_right (show 0 < 2 by decide) (show j ≤ 60 by omega)
      have h5 : (2 : Int) ^ j ≤ 2 ^ 60 := by exact_mod_cast h4
      have e60 : (2 : Int) ^ 60 = 1152921504606846976 := by decide
      have h6 : (0 : Int) < 2 ^ j := Int.pow_pos (by omega)
      have HP := Lib.hid (Int.pow_succ (2 : Int) j)
      rw [e60] at h5
      clear h4 e60
      generalize (2 : Int) ^ j = p at *
      go_wp2
      go_round
      case rel => exact ⟨j + 1, by omega, by push_cast; rfl, by rw [HP.out]⟩
      case measure => simp [intOf]; omega
    · obtain rfl : j = k := by omega
      go_wp2
      go_ret
      exact ⟨rfl, rfl⟩
end Go.Proofs.Ytlbjoflmfboeeaa.Enc
