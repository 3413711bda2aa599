/- Walks of the given program's functions and the law's row, written by a program of this session (the kit's print, with changes of this session's own): each Go function does what the Lean function of its name says. No condition but those that each theorem states. -/
import Derived.Test.YtoooienmcogbhaaPBandsCirclex0
namespace Go.Proofs.Ytoooienmcogbhaa.PBandsCircle
open Go.RowKit Go.Proofs.YtoooienmcogbhaaW.PrintWords Go.Proofs.YtoooienmcogbhaaW.PrintLast Go.Proofs.YtoooienmcogbhaaW.PrintMore
attribute [local go_sem] max2_int min2_int max_two min_two max_three min_three max_four min_four   -- for this text's walks alone
set_option linter.unusedVariables false
set_option linter.unusedSimpArgs false

/-! ### sidebandref04_Cos: function 44 -/
def sidebandref04_Cos.j0 : Nat → List Int → Int → Option (Int)
  | 0, _, _ => none
  | k + 1, x0, x1 => if x1 > 2048 then (if (wrap64 (4096 - x1)) > 1024 then (if 0 ≤ (wrap64 (2048 - (wrap64 (4096 - x1)))) then (if (wrap64 (2048 - (wrap64 (4096 - x1)))) < (x0.length : Int) then (some (wrap64 (-(rd x0 (wrap64 (2048 - (wrap64 (4096 - x1)))))))) else (none)) else (none)) else (if 0 ≤ (wrap64 (4096 - x1)) then (if (wrap64 (4096 - x1)) < (x0.length : Int) then (some (rd x0 (wrap64 (4096 - x1)))) else (none)) else (none))) else (if x1 > 1024 then (if 0 ≤ (wrap64 (2048 - x1)) then (if (wrap64 (2048 - x1)) < (x0.length : Int) then (some (wrap64 (-(rd x0 (wrap64 (2048 - x1)))))) else (none)) else (none)) else (if 0 ≤ x1 then (if x1 < (x0.length : Int) then (some (rd x0 x1)) else (none)) else (none)))
def sidebandref04_Cos.f (k : Nat) (l0 : List Int) (a1 : Int) : Option (Int) := if (Int.tmod a1 4096) < 0 then (sidebandref04_Cos.j0 k l0 (wrap64 ((Int.tmod a1 4096) + 4096))) else (sidebandref04_Cos.j0 k l0 (Int.tmod a1 4096))
theorem sidebandref04_Cos.mono_l : ∀ k, (∀ y0 y1, LeO (sidebandref04_Cos.j0 k y0 y1) (sidebandref04_Cos.j0 (k + 1) y0 y1))
  | 0 => fun _ _ r h => by simp [sidebandref04_Cos.j0] at h
  | k + 1 => by
    have ih0 := sidebandref04_Cos.mono_l k
    · intro y0 y1
      unfold sidebandref04_Cos.j0
      repeat' first
      | (with_reducible exact ih0 _ _)
      | (with_reducible exact LeO.refl _)
      | (with_reducible exact LeO.none _)
      | (with_reducible refine LeO.ite ?_ ?_)
      | (with_reducible refine LeO.bind ?_ (fun _ => ?_))
      | exact ih0 _ _
      | exact LeO.none _
      | refine LeO.ite ?_ ?_
      | refine LeO.bind ?_ (fun _ => ?_)
theorem sidebandref04_Cos.mono : ∀ a0 a1 k, LeO (sidebandref04_Cos.f k a0 a1) (sidebandref04_Cos.f (k + 1) a0 a1) := by
  intro a0 a1 k
  have ih0 := sidebandref04_Cos.mono_l k
  unfold sidebandref04_Cos.f
  repeat' first
      | (with_reducible exact ih0 _ _)
      | (with_reducible exact LeO.refl _)
      | (with_reducible exact LeO.none _)
      | (with_reducible refine LeO.ite ?_ ?_)
      | (with_reducible refine LeO.bind ?_ (fun _ => ?_))
      | exact ih0 _ _
      | exact LeO.none _
      | refine LeO.ite ?_ ?_
      | refine LeO.bind ?_ (fun _ => ?_)
set_option maxHeartbeats 8000000 in
set_option maxRecDepth 100000 in
theorem sidebandref04_Cos.calls (k : Nat) (A0 : Option Addr) (c0 : Nat) (l0 : List Int) (a1 : Int) (r : Int) (w : World) (hr0 : Kd.C (Kd.int .i64) w A0 l0.length l0) (hc0 : l0.length ≤ c0) (h : sidebandref04_Cos.f k l0 a1 = some r) :
    Calls Try.prog 44 #[.slice A0 l0.length c0, .int .i64 a1] w fun e w' => e = .returned (.int .i64 r) ∧ Drawn0 w w' := by
  have HR0 := Aside0.mk hr0
  have HC0 := Aside0.mk hc0
  clear hr0 hc0
  have H : (if (Int.tmod a1 4096) < 0 then (sidebandref04_Cos.j0 k l0 (wrap64 ((Int.tmod a1 4096) + 4096))) else (sidebandref04_Cos.j0 k l0 (Int.tmod a1 4096))) = some r := h
  clear h
  have HC3 := Aside0.mk H
  clear H
  go_enter Try.func44, Try.ntmps44
  go_upto_if 8 with (fail)
  go_cut [1] (fun v1 wc => ∃ (kq : Nat) (x1_2 : Int), v1 = .int .i64 x1_2 ∧ Aside0 (sidebandref04_Cos.j0 kq l0 x1_2 = some r) ∧ Aside0 (kq ≤ k) ∧ Drawn0 w wc)
  case first =>
    have H := HC3.out
    clear HC3
    by_cases c4 : (Int.tmod a1 4096) < 0
    · rw [if_pos c4] at H
      have c4b0 : decide ((Int.tmod a1 4096) < 0) = true := decide_eq_true c4
      clear c4
      (first | rw [c4b0] | (simp only [i64_w, i32_w]; rw [c4b0]) | skip)
      have H' := Aside0.mk H
      clear H
      go_wp2
      go_meet
      case rel => exact ⟨_, (wrap64 ((Int.tmod a1 4096) + 4096)), (by first | rfl | (simp; done) | (simp [*]; done)), H', ⟨by first | omega | exact Nat.le_refl _⟩, by repeat (first | exact Drawn0.refl _ | apply Drawn0.step)⟩
    · rw [if_neg c4] at H
      have c4b0 : decide ((Int.tmod a1 4096) < 0) = false := decide_eq_false c4
      clear c4
      (first | rw [c4b0] | (simp only [i64_w, i32_w]; rw [c4b0]) | skip)
      have H' := Aside0.mk H
      clear H
      go_wp2
      go_meet
      case rel => exact ⟨_, (Int.tmod a1 4096), (by first | rfl | (simp; done) | (simp [*]; done)), H', ⟨by first | omega | exact Nat.le_refl _⟩, by repeat (first | exact Drawn0.refl _ | apply Drawn0.step)⟩
  case rest =>
    clear HC3
    try clear p2
    try clear c4
    try clear c4b0
    obtain ⟨kq, x1_2, rfl, HA, HJ2, ⟨mc2, rfl⟩⟩ := hcut
    cases kq with
    | zero => exact absurd HA.out (by simp [sidebandref04_Cos.j0])
    | succ kj2 =>
      have H := HA.out
      clear HA
      simp only [sidebandref04_Cos.j0] at H
      by_cases c5 : x1_2 > 2048
      · rw [if_pos c5] at H
        have c5b0 : decide (2048 < x1_2) = true := decide_eq_true c5
        clear c5
        by_cases c6 : (wrap64 (4096 - x1_2)) > 1024
        · rw [if_pos c6] at H
          have c6b0 : decide (1024 < (wrap64 (4096 - x1_2))) = true := decide_eq_true c6
          clear c6
          obtain ⟨ji7, hji7⟩ : ∃ j_ : Int, (wrap64 (2048 - (wrap64 (4096 - x1_2)))) = j_ := ⟨_, rfl⟩
          replace H : (if 0 ≤ (ji7) then (if (ji7) < (l0.length : Int) then (some (wrap64 (-(rd l0 (ji7))))) else (none)) else (none)) = some r := by first | (rw [hji7] at H; exact H) | (simp only [hji7] at H ⊢; exact H)
          have hji7w : (IntKind.i64.wrap (2048 - (wrap64 (4096 - x1_2)))) = ji7 := (i64_w _).trans hji7
          by_cases c8 : 0 ≤ (ji7)
          · rw [if_pos c8] at H
            have c8b0 : decide (0 ≤ (ji7)) = true := decide_eq_true c8
            clear c8
            by_cases c9 : (ji7) < (l0.length : Int)
            · rw [if_pos c9] at H
              have c9b0 : decide ((ji7) < (l0.length : Int)) = true := decide_eq_true c9
              clear c9
              obtain rfl := Option.some.inj H
              have p116 : 0 ≤ ((ji7) : Int) := of_decide_eq_true (by first | (with_reducible assumption) | assumption)
              have q116 : (ji7) < (l0.length : Int) := of_decide_eq_true (by first | (with_reducible assumption) | assumption)
              obtain ⟨ad116, e116, hx116_0⟩ := Kd.at_int HR0.out (ji7) p116 q116
              cases e116
              replace p116 := eq_true p116
              replace q116 := eq_true q116
              go_wp2
              go_ret
              exact ⟨by first | rfl | (simp; done) | (simp only [← hji7] <;> (first | rfl | simp)) | (simp [*]; done), by repeat (first | exact Drawn0.refl _ | apply Drawn0.step)⟩
            · rw [if_neg c9] at H
              exact absurd H (by simp)
          · rw [if_neg c8] at H
            exact absurd H (by simp)
        · rw [if_neg c6] at H
          have c6b0 : decide (1024 < (wrap64 (4096 - x1_2))) = false := decide_eq_false c6
          clear c6
          obtain ⟨ji10, hji10⟩ : ∃ j_ : Int, (wrap64 (4096 - x1_2)) = j_ := ⟨_, rfl⟩
          replace H : (if 0 ≤ (ji10) then (if (ji10) < (l0.length : Int) then (some (rd l0 (ji10))) else (none)) else (none)) = some r := by first | (rw [hji10] at H; exact H) | (simp only [hji10] at H ⊢; exact H)
          (try rw [hji10] at c6b0)
          have hji10w : (IntKind.i64.wrap (4096 - x1_2)) = ji10 := (i64_w _).trans hji10
          by_cases c11 : 0 ≤ (ji10)
          · rw [if_pos c11] at H
            have c11b0 : decide (0 ≤ (ji10)) = true := decide_eq_true c11
            clear c11
            by_cases c12 : (ji10) < (l0.length : Int)
            · rw [if_pos c12] at H
              have c12b0 : decide ((ji10) < (l0.length : Int)) = true := decide_eq_true c12
              clear c12
              obtain rfl := Option.some.inj H
              have p117 : 0 ≤ ((ji10) : Int) := of_decide_eq_true (by first | (with_reducible assumption) | assumption)
              have q117 : (ji10) < (l0.length : Int) := of_decide_eq_true (by first | (with_reducible assumption) | assumption)
              obtain ⟨ad117, e117, hx117_0⟩ := Kd.at_int HR0.out (ji10) p117 q117
              cases e117
              replace p117 := eq_true p117
              replace q117 := eq_true q117
              go_wp2
              go_ret
              exact ⟨by first | rfl | (simp; done) | (simp only [← hji10] <;> (first | rfl | simp)) | (simp [*]; done), by repeat (first | exact Drawn0.refl _ | apply Drawn0.step)⟩
            · rw [if_neg c12] at H
              exact absurd H (by simp)
          · rw [if_neg c11] at H
            exact absurd H (by simp)
      · rw [if_neg c5] at H
        have c5b0 : decide (2048 < x1_2) = false := decide_eq_false c5
        clear c5
        by_cases c13 : x1_2 > 1024
        · rw [if_pos c13] at H
          have c13b0 : decide (1024 < x1_2) = true := decide_eq_true c13
          clear c13
          obtain ⟨ji14, hji14⟩ : ∃ j_ : Int, (wrap64 (2048 - x1_2)) = j_ := ⟨_, rfl⟩
          replace H : (if 0 ≤ (ji14) then (if (ji14) < (l0.length : Int) then (some (wrap64 (-(rd l0 (ji14))))) else (none)) else (none)) = some r := by first | (rw [hji14] at H; exact H) | (simp only [hji14] at H ⊢; exact H)
          have hji14w : (IntKind.i64.wrap (2048 - x1_2)) = ji14 := (i64_w _).trans hji14
          by_cases c15 : 0 ≤ (ji14)
          · rw [if_pos c15] at H
            have c15b0 : decide (0 ≤ (ji14)) = true := decide_eq_true c15
            clear c15
            by_cases c16 : (ji14) < (l0.length : Int)
            · rw [if_pos c16] at H
              have c16b0 : decide ((ji14) < (l0.length : Int)) = true := decide_eq_true c16
              clear c16
              obtain rfl := Option.some.inj H
              have p118 : 0 ≤ ((ji14) : Int) := of_decide_eq_true (by first | (with_reducible assumption) | assumption)
              have q118 : (ji14) < (l0.length : Int) := of_decide_eq_true (by first | (with_reducible assumption) | assumption)
              obtain ⟨ad118, e118, hx118_0⟩ := Kd.at_int HR0.out (ji14) p118 q118
              cases e118
              replace p118 := eq_true p118
              replace q118 := eq_true q118
              go_wp2
              go_ret
              exact ⟨by first | rfl | (simp; done) | (simp only [← hji14] <;> (first | rfl | simp)) | (simp [*]; done), by repeat (first | exact Drawn0.refl _ | apply Drawn0.step)⟩
            · rw [if_neg c16] at H
              exact absurd H (by simp)
          · rw [if_neg c15] at H
            exact absurd H (by simp)
        · rw [if_neg c13] at H
          have c13b0 : decide (1024 < x1_2) = false := decide_eq_false c13
          clear c13
          by_cases c17 : 0 ≤ x1_2
          · rw [if_pos c17] at H
            have c17b0 : decide (0 ≤ x1_2) = true := decide_eq_true c17
            clear c17
            by_cases c18 : x1_2 < (l0.length : Int)
            · rw [if_pos c18] at H
              have c18b0 : decide (x1_2 < (l0.length : Int)) = true := decide_eq_true c18
              clear c18
              obtain rfl := Option.some.inj H
              have p119 : 0 ≤ (x1_2 : Int) := of_decide_eq_true (by first | (with_reducible assumption) | assumption)
              have q119 : x1_2 < (l0.length : Int) := of_decide_eq_true (by first | (with_reducible assumption) | assumption)
              obtain ⟨ad119, e119, hx119_0⟩ := Kd.at_int HR0.out x1_2 p119 q119
              cases e119
              replace p119 := eq_true p119
              replace q119 := eq_true q119
              go_wp2
              go_ret
              exact ⟨by first | rfl | (simp; done) | (simp [*]; done), by repeat (first | exact Drawn0.refl _ | apply Drawn0.step)⟩
            · rw [if_neg c18] at H
              exact absurd H (by simp)
          · rw [if_neg c17] at H
            exact absurd H (by simp)

-- NOT PRINTED: function 45 (bands_Circle_Rise)

/-! ### sidebandref04_Rise: function 46 -/
def sidebandref04_Rise.f (k : Nat) (l0 : List Int) (a1 : Int) : Option (Int) := if a1 < 0 then (some 0) else (if a1 ≥ 128 then (some 16777216) else ((sidebandref04_Cos.f k l0 (wrap64 (1024 - (wrap64 (4 * (wrap64 ((wrap64 (2 * a1)) + 1))))))).bind fun t120 => (some t120)))
theorem sidebandref04_Rise.mono : ∀ a0 a1 k, LeO (sidebandref04_Rise.f k a0 a1) (sidebandref04_Rise.f (k + 1) a0 a1) := by
  intro a0 a1 k
  unfold sidebandref04_Rise.f
  repeat' first
      | (with_reducible exact sidebandref04_Cos.mono _ _ _)
      | (with_reducible exact LeO.refl _)
      | (with_reducible exact LeO.none _)
      | (with_reducible refine LeO.ite ?_ ?_)
      | (with_reducible refine LeO.bind ?_ (fun _ => ?_))
      | exact sidebandref04_Cos.mono _ _ _
      | exact LeO.none _
      | refine LeO.ite ?_ ?_
      | refine LeO.bind ?_ (fun _ => ?_)
set_option maxHeartbeats 8000000 in
set_option maxRecDepth 100000 in
theorem sidebandref04_Rise.calls (k : Nat) (A0 : Option Addr) (c0 : Nat) (l0 : List Int) (a1 : Int) (r : Int) (w : World) (hr0 : Kd.C (Kd.int .i64) w A0 l0.length l0) (hc0 : l0.length ≤ c0) (h : sidebandref04_Rise.f k l0 a1 = some r) :
    Calls Try.prog 46 #[.slice A0 l0.length c0, .int .i64 a1] w fun e w' => e = .returned (.int .i64 r) ∧ Drawn0 w w' := by
  have HR0 := Aside0.mk hr0
  have HC0 := Aside0.mk hc0
  clear hr0 hc0
  have H : (if a1 < 0 then (some 0) else (if a1 ≥ 128 then (some 16777216) else ((sidebandref04_Cos.f k l0 (wrap64 (1024 - (wrap64 (4 * (wrap64 ((wrap64 (2 * a1)) + 1))))))).bind fun t120 => (some t120)))) = some r := h
  clear h
  by_cases c3 : a1 < 0
  · rw [if_pos c3] at H
    have c3b0 : decide (a1 < 0) = true := decide_eq_true c3
    clear c3
    obtain rfl := Option.some.inj H
    go_enter Try.func46, Try.ntmps46
    go_wp2
    go_ret
    exact ⟨by first | rfl | (simp; done) | (simp [*]; done), by repeat (first | exact Drawn0.refl _ | apply Drawn0.step)⟩
  · rw [if_neg c3] at H
    have c3b0 : decide (a1 < 0) = false := decide_eq_false c3
    clear c3
    by_cases c4 : a1 ≥ 128
    · rw [if_pos c4] at H
      have c4b0 : decide (128 ≤ a1) = true := decide_eq_true c4
      clear c4
      obtain rfl := Option.some.inj H
      go_enter Try.func46, Try.ntmps46
      go_wp2
      go_ret
      exact ⟨by first | rfl | (simp; done) | (simp [*]; done), by repeat (first | exact Drawn0.refl _ | apply Drawn0.step)⟩
    · rw [if_neg c4] at H
      have c4b0 : decide (128 ≤ a1) = false := decide_eq_false c4
      clear c4
      replace H := Option.bind_eq_some_iff.mp H
      obtain ⟨t120, A50, H⟩ := H
      replace H : (some t120) = some r := H
      have A5 := Aside0.mk A50
      clear A50
      obtain rfl := Option.some.inj H
      go_enter Try.func46, Try.ntmps46
      go_wp2_with (first | ((with_reducible refine gate_callee (f := 44) rfl ?_); refine goesL_ (some 15) rfl rfl Try.func44 (by kernel_rfl) rfl #[.slice A0 l0.length c0, .int .i64 (wrap64 (1024 - (wrap64 (4 * (wrap64 ((wrap64 (2 * a1)) + 1))))))] rfl (by (try simp only [List.map_toArray, List.map_cons, List.map_nil]); first | done | rfl | (simp only [List.length_drop, List.length_take]; rfl)) ?_; (with_reducible refine (sidebandref04_Cos.calls k _ _ l0 (wrap64 (1024 - (wrap64 (4 * (wrap64 ((wrap64 (2 * a1)) + 1)))))) t120 _ ?side1 ?side2 A5.out).mono ?_); (case side1 => repeat (first | exact HR0.out | (with_reducible refine Kd.C_alloc ?_ _) | (with_reducible refine Kd.C_drewN ?_ _) | (with_reducible refine Kd.C_drew ?_))); (case side2 => exact HC0.out); rintro e w' ⟨rfl, ⟨nd, rfl⟩⟩; refine ⟨_, rfl, ?_⟩))
      go_ret
      exact ⟨by first | rfl | (simp; done) | (simp [*]; done), by repeat (first | exact Drawn0.refl _ | apply Drawn0.step)⟩

-- NOT PRINTED: function 9 (sidebandlaw04_BandsCircle)

end Go.Proofs.Ytoooienmcogbhaa.PBandsCircle
