/-
  The document's quarter of a circle is the table; no condition.
-/
import Derived.Test.YtoooienmcogbhaaBne
set_option linter.unusedVariables false
set_option linter.unusedSimpArgs false
namespace Go.Proofs.Ytoooienmcogbhaa.Bnd
open Go.RowKit Go.Proofs.Ytoooienmcogbhaa Go.Proofs.YtoooienmcogbhaaW.PrintWords Go.Proofs.YtoooienmcogbhaaW.PrintLast Go.Proofs.YtoooienmcogbhaaW.PrintMore Go.Proofs.Ytoooienmcogbhaa.PBandsCircle
theorem ref_root : ∀ e : Fin 10, sidebandref04_root.f 60 ((16777216 + qt (2 ^ (e.val + 1))) * 8388608) = some (qt (2 ^ e.val)) := by decide +kernel
theorem ref_start : (List.replicate 1025 (0 : Int)).set 0 16777216 = sel (pw 1024) := by decide +kernel
attribute [local irreducible] qt QT sel cv cb
theorem root_up (x r : Int) (n : Nat) (h : sidebandref04_root.f 60 x = some r) : sidebandref04_root.f (60 + n) x = some r := by
  induction n with
  | zero => exact h
  | succ n ih => exact sidebandref04_root.mono x (60 + n) r ih
/-- A quotient, to the nearest one. -/
theorem nearest (N y : Int) (hN : 0 ≤ N) (hy : 0 < y) : (2 * N + y) / (2 * y) = if 2 * (N % y) ≥ y then N / y + 1 else N / y := by
  have e := Int.emod_add_mul_ediv N y
  have h0 := Int.emod_nonneg N (show y ≠ 0 by omega)
  have h1 := Int.emod_lt_of_pos N hy
  generalize N % y = r at *
  generalize N / y = q at *
  have e2 : 2 * N + y = (2 * r + y) + (2 * y) * q := by rw [← e, Int.mul_add, Int.mul_assoc]; omega
  rw [e2, Int.add_mul_ediv_left _ _ (show 2 * y ≠ 0 by omega)]
  split
  · rename_i h
    rw [show (2 * r + y) / (2 * y) = 1 from by
      rw [show 2 * r + y = (2 * r - y) + (2 * y) * 1 from by omega, Int.add_mul_ediv_left _ _ (show 2 * y ≠ 0 by omega), Int.ediv_eq_zero_of_lt (by omega) (by omega)]; rfl]
    omega
  · rw [Int.ediv_eq_zero_of_lt (by omega) (by omega)]
    omega
set_option maxRecDepth 10000 in
theorem l1_one (n : Nat) (l : List Int) (h g a : Nat) (hl : l.length = 1025) (hg : h = 2 * g) (g0 : 0 < g) (ha : a + h ≤ 1024) (xa xb y : Int) (Ra : rd l (a : Int) = xa) (Rb : rd l ((a + h : Nat) : Int) = xb) (Rc : rd l (g : Int) = y)
    (ba : 0 ≤ xa ∧ xa ≤ 16777216) (bb : 0 ≤ xb ∧ xb ≤ 16777216) (y0 : 0 < y ∧ y ≤ 16777216) :
    sidebandref04_Quarter.l1 (n + 1) l h a = sidebandref04_Quarter.l1 n (l.set (a + g) ((2 * ((xa + xb) * 8388608) + y) / (2 * y))) h ((a + h : Nat) : Int) := by
  have E1 : Hid (wrap64 ((a : Int) + (h : Int)) = ((a + h : Nat) : Int)) := Lib.hid (wrap64_id (by omega) (by omega))
  have E2 : Hid (wrap64 (Int.tdiv (h : Int) 2) = (g : Int)) := Lib.hid (by rw [Int.tdiv_eq_ediv_of_nonneg (by omega), wrap64_id (by omega) (by omega)]; omega)
  have E3 : Hid (wrap64 ((a : Int) + (g : Int)) = ((a + g : Nat) : Int)) := Lib.hid (wrap64_id (by omega) (by omega))
  have W1 : Hid (wrap64 (xa + xb) = xa + xb) := Lib.hid (wrap64_id (by omega) (by omega))
  have hN : 0 ≤ (xa + xb) * 8388608 ∧ (xa + xb) * 8388608 ≤ 281474976710656 := by omega
  have W2 : Hid (wrap64 ((xa + xb) * 8388608) = (xa + xb) * 8388608) := Lib.hid (wrap64_id (by omega) (by omega))
  rw [nearest _ _ hN.1 y0.1]
  generalize hNN : (xa + xb) * 8388608 = N at *
  have T1 : Int.tmod N y = N % y := Int.tmod_eq_emod_of_nonneg hN.1
  have T2 : Int.tdiv N y = N / y := Int.tdiv_eq_ediv_of_nonneg hN.1
  have m0 := Int.emod_nonneg N (show y ≠ 0 by omega)
  have m1 := Int.emod_lt_of_pos N y0.1
  have d0 := Int.ediv_nonneg hN.1 (Int.le_of_lt y0.1)
  have d1 : N / y ≤ N := Int.ediv_le_self _ hN.1
  have W3 : Hid (wrap64 (2 * (N % y)) = 2 * (N % y)) := Lib.hid (wrap64_id (by omega) (by omega))
  have W4 : Hid (wrap64 (N / y) = N / y) := Lib.hid (wrap64_id (by omega) (by omega))
  have W5 : Hid (wrap64 (N / y + 1) = N / y + 1) := Lib.hid (wrap64_id (by omega) (by omega))
  simp only [sidebandref04_Quarter.l1, E1.out, E2.out, E3.out, Ra, Rb, Rc, W1.out, hNN, W2.out, T1, T2, W3.out, W4.out, W5.out, hl]
  rw [if_pos (by omega), if_pos (by omega), if_pos (by omega), if_pos (by omega), if_pos (by omega), if_pos (by omega), if_pos (by omega), if_neg (by omega)]
  split
  · rw [if_pos (by omega), if_pos (by omega), Int.toNat_natCast]
  · rw [if_pos (by omega), if_pos (by omega), Int.toNat_natCast]
set_option maxRecDepth 10000 in
theorem l1_end (n : Nat) (l : List Int) (h g : Nat) (hg : h = 2 * g) (g0 : 0 < g) (hh : h ≤ 1024) : sidebandref04_Quarter.l1 (n + 1) l h (1024 : Nat) = sidebandref04_Quarter.l0 n l (g : Int) := by
  have E1 : Hid (wrap64 (((1024 : Nat) : Int) + (h : Int)) = ((1024 + h : Nat) : Int)) := Lib.hid (wrap64_id (by omega) (by omega))
  have E2 : Hid (wrap64 (Int.tdiv (h : Int) 2) = (g : Int)) := Lib.hid (by rw [Int.tdiv_eq_ediv_of_nonneg (by omega), wrap64_id (by omega) (by omega)]; omega)
  simp only [sidebandref04_Quarter.l1, E1.out, E2.out]
  rw [if_neg (by omega)]
set_option maxRecDepth 10000 in
theorem l0_one (n : Nat) (l : List Int) (h g : Nat) (hl : l.length = 1025) (hg : h = 2 * g) (g0 : 0 < g) (hh : h ≤ 1024) (x y : Int) (Ra : rd l (h : Int) = x) (bx : 0 ≤ x ∧ x ≤ 16777216) (hr : sidebandref04_root.f n ((16777216 + x) * 8388608) = some y) :
    sidebandref04_Quarter.l0 (n + 1) l h = sidebandref04_Quarter.l1 n (l.set g y) h h := by
  have E2 : Hid (wrap64 (Int.tdiv (h : Int) 2) = (g : Int)) := Lib.hid (by rw [Int.tdiv_eq_ediv_of_nonneg (by omega), wrap64_id (by omega) (by omega)]; omega)
  have W1 : Hid (wrap64 (16777216 + x) = 16777216 + x) := Lib.hid (wrap64_id (by omega) (by omega))
  have W2 : Hid (wrap64 ((16777216 + x) * 8388608) = (16777216 + x) * 8388608) := Lib.hid (wrap64_id (by omega) (by omega))
  simp only [sidebandref04_Quarter.l0, E2.out, Ra, W1.out, W2.out, hr, hl, Option.bind_some]
  rw [if_pos (by omega), if_pos (by omega), if_pos (by omega), if_pos (by omega), if_pos (by omega), Int.toNat_natCast]
/-- The places filled in a round of the document's. -/
def pref (h a i : Nat) : Bool := pin h a i || i == h / 2
theorem rd_sel (p : Nat → Bool) (i : Nat) (h : i < 1025) (hp : p i = true) : rd (sel p) (i : Int) = qt i := by
  unfold rd
  rw [Int.toNat_natCast, List.getD_eq_getElem?_getD, List.getElem?_eq_getElem (by rw [sel_len]; exact h), sel_get _ _ h hp]
  rfl
theorem inner (e : Nat) (he : e < 10) (K0 : Nat) (ih : ∀ n, K0 ≤ n → sidebandref04_Quarter.l0 n (sel (pw (2 ^ e))) ((2 ^ e : Nat) : Int) = some QT) :
    ∀ j k, (k + 1) * 2 ^ (e + 1) + j * 2 ^ (e + 1) = 1024 → ∃ K, ∀ n, K ≤ n → sidebandref04_Quarter.l1 n (sel (pref (2 ^ (e + 1)) ((k + 1) * 2 ^ (e + 1)))) ((2 ^ (e + 1) : Nat) : Int) (((k + 1) * 2 ^ (e + 1) : Nat) : Int) = some QT := by
  obtain ⟨b1, b2, b3, b4, b5⟩ := pow_e ⟨e, he⟩
  simp only at b1 b2 b3 b4 b5
  intro j
  induction j with
  | zero =>
    intro k hk
    refine ⟨K0 + 1, fun n hn => ?_⟩
    obtain ⟨n, rfl⟩ : ∃ m, n = m + 1 := ⟨n - 1, by omega⟩
    rw [show (k + 1) * 2 ^ (e + 1) = 1024 from by omega, l1_end n _ _ (2 ^ e) b3 b5 b2, ← ih n (by omega)]
    congr 1
    apply sel_eq
    intro i hi
    rw [pin_last (2 ^ e) i b5 hi (by rw [← b3]; exact b4), pref, b3, show 2 * 2 ^ e / 2 = 2 ^ e from by omega]
  | succ j jh =>
    intro k hk
    obtain ⟨K, hK⟩ := jh (k + 1) (by rw [Nat.add_mul (k + 1) 1, Nat.one_mul]; rw [Nat.add_mul j 1, Nat.one_mul] at hk; omega)
    refine ⟨K + 1, fun n hn => ?_⟩
    obtain ⟨n, rfl⟩ : ∃ m, n = m + 1 := ⟨n - 1, by omega⟩
    have hn2 : (k + 1 + 1) * 2 ^ (e + 1) = (k + 1) * 2 ^ (e + 1) + 2 ^ (e + 1) := by rw [Nat.add_mul (k + 1) 1, Nat.one_mul]
    have hle : (k + 1) * 2 ^ (e + 1) + 2 ^ (e + 1) ≤ 1024 := by rw [Nat.add_mul j 1, Nat.one_mul] at hk; omega
    have hk512 : k < 512 := by
      rcases Nat.lt_or_ge k 512 with hq | hq
      · exact hq
      · have : (512 + 1) * 2 ≤ (k + 1) * 2 ^ (e + 1) := Nat.mul_le_mul (by omega) (by omega)
        omega
    have M := qt_mid ⟨e, he⟩ ⟨k, hk512⟩ (by show (k + 1) * 2 ^ (e + 1) < 1024; omega)
    simp only at M
    have p1 := root_pos ⟨e, he⟩
    have q1 := qt_bd ⟨2 ^ e, by omega⟩
    have qa := qt_bd ⟨(k + 1) * 2 ^ (e + 1), by omega⟩
    have qb := qt_bd ⟨(k + 1) * 2 ^ (e + 1) + 2 ^ (e + 1), by omega⟩
    simp only at p1 q1 qa qb
    have P0 : ∀ i, pin (2 ^ (e + 1)) ((k + 1) * 2 ^ (e + 1)) i = true → pref (2 ^ (e + 1)) ((k + 1) * 2 ^ (e + 1)) i = true := fun i h => by unfold pref; rw [h]; rfl
    rw [l1_one n _ _ (2 ^ e) ((k + 1) * 2 ^ (e + 1)) (sel_len _) b3 b5 hle (qt ((k + 1) * 2 ^ (e + 1))) (qt ((k + 1) * 2 ^ (e + 1) + 2 ^ (e + 1))) (qt (2 ^ e))
      (rd_sel _ _ (by omega) (P0 _ (pin_at _ _ _))) (rd_sel _ _ (by omega) (P0 _ (by rw [← hn2]; exact pin_at _ _ _))) (rd_sel _ _ (by omega) (by unfold pref; rw [show 2 ^ (e + 1) / 2 = 2 ^ e from by omega]; simp)) qa qb ⟨p1, q1.2⟩,
      ← hn2, M, ← hK n (by omega)]
    congr 1
    apply sel_set
    intro i _
    have hs := pin_step (2 ^ e) k i b5
    rw [← b3] at hs
    unfold pref
    rw [hs]
    cases pin (2 ^ (e + 1)) ((k + 1) * 2 ^ (e + 1)) i <;> cases (i == (k + 1) * 2 ^ (e + 1) + 2 ^ e) <;> cases (i == 2 ^ (e + 1) / 2) <;> rfl
theorem outer : ∀ e, e ≤ 10 → ∃ K, ∀ n, K ≤ n → sidebandref04_Quarter.l0 n (sel (pw (2 ^ e))) ((2 ^ e : Nat) : Int) = some QT := by
  intro e
  induction e with
  | zero =>
    intro _
    refine ⟨1, fun n hn => ?_⟩
    obtain ⟨n, rfl⟩ : ∃ m, n = m + 1 := ⟨n - 1, by omega⟩
    rw [show (2 : Nat) ^ 0 = 1 from rfl, sel_eq (pw 1) (fun _ => true) (fun j _ => by simp [pw, Nat.mod_one]), sel_all]
    simp only [sidebandref04_Quarter.l0]
    rw [if_neg (by omega)]
  | succ e ihe =>
    intro he
    obtain ⟨b1, b2, b3, b4, b5⟩ := pow_e ⟨e, by omega⟩
    simp only at b1 b2 b3 b4 b5
    obtain ⟨K0, hK0⟩ := ihe (by omega)
    obtain ⟨K, hK⟩ := inner e (by omega) K0 hK0 (1024 / 2 ^ (e + 1) - 1) 0 (by
      have hD : 1024 / 2 ^ (e + 1) * 2 ^ (e + 1) = 1024 := Nat.div_mul_cancel (Nat.dvd_of_mod_eq_zero b4)
      rw [← Nat.add_mul, show 0 + 1 + (1024 / 2 ^ (e + 1) - 1) = 1024 / 2 ^ (e + 1) from by
        rcases Nat.eq_zero_or_pos (1024 / 2 ^ (e + 1)) with h | h
        · rw [h] at hD; omega
        · omega, hD])
    refine ⟨K + 61, fun n hn => ?_⟩
    obtain ⟨n, rfl⟩ : ∃ m, n = m + 1 := ⟨n - 1, by omega⟩
    have r1 := ref_root ⟨e, by omega⟩
    simp only at r1
    have q1 := qt_bd ⟨2 ^ (e + 1), by omega⟩
    simp only at q1
    rw [l0_one n _ _ (2 ^ e) (sel_len _) b3 b5 b2 (qt (2 ^ (e + 1))) (qt (2 ^ e)) (rd_sel _ _ (by omega) (by simp [pw])) q1 (by
      obtain ⟨m, rfl⟩ : ∃ m, n = 60 + m := ⟨n - 60, by omega⟩
      exact root_up _ _ m r1), ← hK n (by omega)]
    rw [Nat.zero_add, Nat.one_mul]
    congr 1
    apply sel_set
    intro i _
    have hs := pin_first (2 ^ (e + 1)) i (by omega)
    rw [Nat.zero_add, Nat.one_mul] at hs
    unfold pref
    rw [← hs, show 2 ^ (e + 1) / 2 = 2 ^ e from by omega]
theorem ref_quarter : ∃ k, sidebandref04_Quarter.f k = some QT := by
  obtain ⟨K, hK⟩ := outer 10 (by omega)
  refine ⟨K, ?_⟩
  have := hK K (Nat.le_refl _)
  unfold sidebandref04_Quarter.f
  rw [if_pos (by decide), Option.bind_some, if_pos (by rw [List.length_replicate]; decide), show (0 : Int).toNat = 0 from rfl, ref_start]
  exact this
end Go.Proofs.Ytoooienmcogbhaa.Bnd
