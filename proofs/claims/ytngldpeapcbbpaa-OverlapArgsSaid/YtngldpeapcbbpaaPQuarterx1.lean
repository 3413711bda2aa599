/- Walks of the given program's functions and the law's row, written by a program of this session (the kit's print, with changes of this session's own): each Go function does what the Lean function of its name says. No condition but those that each theorem states. -/
import Derived.Test.YtngldpeapcbbpaaPQuarterx0
namespace Go.Proofs.Ytngldpeapcbbpaa.PQuarter
open Go.RowKit Go.Proofs.YtngldpeapcbbpaaW.PrintWords Go.Proofs.YtngldpeapcbbpaaW.PrintLast Go.Proofs.YtngldpeapcbbpaaW.PrintMore
attribute [local go_sem] max2_int min2_int max_two min_two max_three min_three max_four min_four   -- for this text's walks alone
set_option linter.unusedVariables false
set_option linter.unusedSimpArgs false

/-! ### sidebandref04_root: function 46 -/
def sidebandref04_root.l0 : Nat → Int → Int → Int → Option (Int)
  | 0, _, _, _ => none
  | k + 1, x0, x3, x4 => if (wrap64 (x4 - x3)) > 1 then (if (wrap64 ((wrap64 (Int.tdiv (wrap64 (x3 + x4)) 2)) * (wrap64 (Int.tdiv (wrap64 (x3 + x4)) 2)))) ≤ x0 then (sidebandref04_root.l0 k x0 (wrap64 (Int.tdiv (wrap64 (x3 + x4)) 2)) x4) else (sidebandref04_root.l0 k x0 x3 (wrap64 (Int.tdiv (wrap64 (x3 + x4)) 2)))) else (some x3)
def sidebandref04_root.f (k : Nat) (a0 : Int) : Option (Int) := sidebandref04_root.l0 k a0 0 33554432
theorem sidebandref04_root.mono_l : ∀ k, (∀ y0 y1 y2, LeO (sidebandref04_root.l0 k y0 y1 y2) (sidebandref04_root.l0 (k + 1) y0 y1 y2))
  | 0 => fun _ _ _ r h => by simp [sidebandref04_root.l0] at h
  | k + 1 => by
    have ih0 := sidebandref04_root.mono_l k
    · intro y0 y1 y2
      unfold sidebandref04_root.l0
      repeat' first
      | (with_reducible exact ih0 _ _ _)
      | (with_reducible exact LeO.refl _)
      | (with_reducible exact LeO.none _)
      | (with_reducible refine LeO.ite ?_ ?_)
      | (with_reducible refine LeO.bind ?_ (fun _ => ?_))
      | exact ih0 _ _ _
      | exact LeO.none _
      | refine LeO.ite ?_ ?_
      | refine LeO.bind ?_ (fun _ => ?_)
theorem sidebandref04_root.mono : ∀ a0 k, LeO (sidebandref04_root.f k a0) (sidebandref04_root.f (k + 1) a0) := by
  intro a0 k
  have ih0 := sidebandref04_root.mono_l k
  unfold sidebandref04_root.f
  repeat' first
      | (with_reducible exact ih0 _ _ _)
      | (with_reducible exact LeO.refl _)
      | (with_reducible exact LeO.none _)
      | (with_reducible refine LeO.ite ?_ ?_)
      | (with_reducible refine LeO.bind ?_ (fun _ => ?_))
      | exact ih0 _ _ _
      | exact LeO.none _
      | refine LeO.ite ?_ ?_
      | refine LeO.bind ?_ (fun _ => ?_)
set_option maxHeartbeats 8000000 in
set_option maxRecDepth 100000 in
theorem sidebandref04_root.calls (k : Nat) (a0 : Int) (r : Int) (w : World) (h : sidebandref04_root.f k a0 = some r) :
    Calls Try.prog 46 #[.int .i64 a0] w fun e w' => e = .returned (.int .i64 r) ∧ Drawn0 w w' := by
  have H : (sidebandref04_root.l0 k a0 0 33554432) = some r := h
  clear h
  have H' := Aside0.mk H
  clear H
  go_enter Try.func46, Try.ntmps46
  go_wp2
  go_loopg [3, 4] k (fun kq v3 v4 w' => ∃ (x3_1 : Int) (x4_1 : Int), v3 = .int .i64 x3_1 ∧ v4 = .int .i64 x4_1 ∧ Aside0 (sidebandref04_root.l0 kq a0 x3_1 x4_1 = some r) ∧ Aside0 (kq ≤ k) ∧ Drawn0 w w')
  case atStart => exact ⟨(0), (33554432), (by first | rfl | (simp; done) | (simp [*]; done)), (by first | rfl | (simp; done) | (simp [*]; done)), H', ⟨Nat.le_refl _⟩, by repeat (first | exact Drawn0.refl _ | apply Drawn0.step)⟩
  case round =>
    clear H'
    obtain ⟨x3_1, x4_1, rfl, rfl, HA, HK1, ⟨m1, rfl⟩⟩ := hrel
    cases gk with
    | zero => exact absurd HA.out (by simp [sidebandref04_root.l0])
    | succ k1 =>
      have H := HA.out
      clear HA
      simp only [sidebandref04_root.l0] at H
      by_cases c2 : (wrap64 (x4_1 - x3_1)) > 1
      · rw [if_pos c2] at H
        have c2b0 : decide (1 < (wrap64 (x4_1 - x3_1))) = true := decide_eq_true c2
        clear c2
        by_cases c3 : (wrap64 ((wrap64 (Int.tdiv (wrap64 (x3_1 + x4_1)) 2)) * (wrap64 (Int.tdiv (wrap64 (x3_1 + x4_1)) 2)))) ≤ a0
        · rw [if_pos c3] at H
          have c3b0 : decide ((wrap64 ((wrap64 (Int.tdiv (wrap64 (x3_1 + x4_1)) 2)) * (wrap64 (Int.tdiv (wrap64 (x3_1 + x4_1)) 2)))) ≤ a0) = true := decide_eq_true c3
          clear c3
          have H' := Aside0.mk H
          clear H
          go_wp2
          go_roundg k1
          case measure => have := HK1.out; omega
          case rel => exact ⟨(wrap64 (Int.tdiv (wrap64 (x3_1 + x4_1)) 2)), (x4_1), (by first | rfl | (simp; done) | (simp [*]; done)), (by first | rfl | (simp; done) | (simp [*]; done)), H', ⟨by have := HK1.out; omega⟩, by repeat (first | exact Drawn0.refl _ | apply Drawn0.step)⟩
        · rw [if_neg c3] at H
          have c3b0 : decide ((wrap64 ((wrap64 (Int.tdiv (wrap64 (x3_1 + x4_1)) 2)) * (wrap64 (Int.tdiv (wrap64 (x3_1 + x4_1)) 2)))) ≤ a0) = false := decide_eq_false c3
          clear c3
          have H' := Aside0.mk H
          clear H
          go_wp2
          go_roundg k1
          case measure => have := HK1.out; omega
          case rel => exact ⟨(x3_1), (wrap64 (Int.tdiv (wrap64 (x3_1 + x4_1)) 2)), (by first | rfl | (simp; done) | (simp [*]; done)), (by first | rfl | (simp; done) | (simp [*]; done)), H', ⟨by have := HK1.out; omega⟩, by repeat (first | exact Drawn0.refl _ | apply Drawn0.step)⟩
      · rw [if_neg c2] at H
        have c2b0 : decide (1 < (wrap64 (x4_1 - x3_1))) = false := decide_eq_false c2
        clear c2
        obtain rfl := Option.some.inj H
        go_wp2
        go_ret
        exact ⟨by first | rfl | (simp; done) | (simp [*]; done), by repeat (first | exact Drawn0.refl _ | apply Drawn0.step)⟩

/-! ### sidebandref04_Quarter: function 21 -/
mutual
def sidebandref04_Quarter.l0 : Nat → List Int → Int → Option (List Int)
  | 0, _, _ => none
  | k + 1, x1, x2 => if x2 > 1 then (if 0 ≤ x2 then (if x2 < (x1.length : Int) then ((sidebandref04_root.f k (wrap64 ((wrap64 (16777216 + (rd x1 x2))) * 8388608))).bind fun t106 => (if 0 ≤ (wrap64 (Int.tdiv x2 2)) then (if (wrap64 (Int.tdiv x2 2)) < (x1.length : Int) then (sidebandref04_Quarter.l1 k (x1.set ((wrap64 (Int.tdiv x2 2)) : Int).toNat t106) x2 x2) else (none)) else (none))) else (none)) else (none)) else (some x1)
def sidebandref04_Quarter.l1 : Nat → List Int → Int → Int → Option (List Int)
  | 0, _, _, _ => none
  | k + 1, x1, x2, x3 => if (wrap64 (x3 + x2)) ≤ 1024 then (if 0 ≤ x3 then (if x3 < (x1.length : Int) then (if 0 ≤ (wrap64 (x3 + x2)) then (if (wrap64 (x3 + x2)) < (x1.length : Int) then (if 0 ≤ (wrap64 (Int.tdiv x2 2)) then (if (wrap64 (Int.tdiv x2 2)) < (x1.length : Int) then (if (rd x1 (wrap64 (Int.tdiv x2 2))) = 0 then (none) else (if (wrap64 (2 * (Int.tmod (wrap64 ((wrap64 ((rd x1 x3) + (rd x1 (wrap64 (x3 + x2))))) * 8388608)) (rd x1 (wrap64 (Int.tdiv x2 2)))))) ≥ (rd x1 (wrap64 (Int.tdiv x2 2))) then (if 0 ≤ (wrap64 (x3 + (wrap64 (Int.tdiv x2 2)))) then (if (wrap64 (x3 + (wrap64 (Int.tdiv x2 2)))) < (x1.length : Int) then (sidebandref04_Quarter.l1 k (x1.set ((wrap64 (x3 + (wrap64 (Int.tdiv x2 2)))) : Int).toNat (wrap64 ((wrap64 (Int.tdiv (wrap64 ((wrap64 ((rd x1 x3) + (rd x1 (wrap64 (x3 + x2))))) * 8388608)) (rd x1 (wrap64 (Int.tdiv x2 2))))) + 1))) x2 (wrap64 (x3 + x2))) else (none)) else (none)) else (if 0 ≤ (wrap64 (x3 + (wrap64 (Int.tdiv x2 2)))) then (if (wrap64 (x3 + (wrap64 (Int.tdiv x2 2)))) < (x1.length : Int) then (sidebandref04_Quarter.l1 k (x1.set ((wrap64 (x3 + (wrap64 (Int.tdiv x2 2)))) : Int).toNat (wrap64 (Int.tdiv (wrap64 ((wrap64 ((rd x1 x3) + (rd x1 (wrap64 (x3 + x2))))) * 8388608)) (rd x1 (wrap64 (Int.tdiv x2 2)))))) x2 (wrap64 (x3 + x2))) else (none)) else (none)))) else (none)) else (none)) else (none)) else (none)) else (none)) else (none)) else (sidebandref04_Quarter.l0 k x1 (wrap64 (Int.tdiv x2 2)))
end
def sidebandref04_Quarter.f (k : Nat)  : Option (List Int) := if 1025 ≤ 35184372088832 then ((some (List.replicate 1025 0 : List Int)).bind fun y101 => (if 0 < (y101.length : Int) then (sidebandref04_Quarter.l0 k (y101.set (0 : Int).toNat 16777216) 1024) else (none))) else (none)
theorem sidebandref04_Quarter.mono_l : ∀ k, (∀ y0 y1, LeO (sidebandref04_Quarter.l0 k y0 y1) (sidebandref04_Quarter.l0 (k + 1) y0 y1)) ∧ (∀ y0 y1 y2, LeO (sidebandref04_Quarter.l1 k y0 y1 y2) (sidebandref04_Quarter.l1 (k + 1) y0 y1 y2))
  | 0 => ⟨fun _ _ r h => by simp [sidebandref04_Quarter.l0] at h, fun _ _ _ r h => by simp [sidebandref04_Quarter.l1] at h⟩
  | k + 1 => by
    obtain ⟨ih0, ih1⟩ := sidebandref04_Quarter.mono_l k
    refine ⟨?_, ?_⟩
    · intro y0 y1
      unfold sidebandref04_Quarter.l0
      repeat' first
      | (with_reducible exact ih0 _ _)
      | (with_reducible exact ih1 _ _ _)
      | (with_reducible exact sidebandref04_root.mono _ _)
      | (with_reducible exact LeO.refl _)
      | (with_reducible exact LeO.none _)
      | (with_reducible refine LeO.ite ?_ ?_)
      | (with_reducible refine LeO.bind ?_ (fun _ => ?_))
      | exact ih0 _ _
      | exact ih1 _ _ _
      | exact sidebandref04_root.mono _ _
      | exact LeO.none _
      | refine LeO.ite ?_ ?_
      | refine LeO.bind ?_ (fun _ => ?_)
    · intro y0 y1 y2
      unfold sidebandref04_Quarter.l1
      repeat' first
      | (with_reducible exact ih0 _ _)
      | (with_reducible exact ih1 _ _ _)
      | (with_reducible exact sidebandref04_root.mono _ _)
      | (with_reducible exact LeO.refl _)
      | (with_reducible exact LeO.none _)
      | (with_reducible refine LeO.ite ?_ ?_)
      | (with_reducible refine LeO.bind ?_ (fun _ => ?_))
      | exact ih0 _ _
      | exact ih1 _ _ _
      | exact sidebandref04_root.mono _ _
      | exact LeO.none _
      | refine LeO.ite ?_ ?_
      | refine LeO.bind ?_ (fun _ => ?_)
theorem sidebandref04_Quarter.mono : ∀ k, LeO (sidebandref04_Quarter.f k ) (sidebandref04_Quarter.f (k + 1) ) := by
  intro  k
  obtain ⟨ih0, ih1⟩ := sidebandref04_Quarter.mono_l k
  unfold sidebandref04_Quarter.f
  repeat' first
      | (with_reducible exact ih0 _ _)
      | (with_reducible exact ih1 _ _ _)
      | (with_reducible exact sidebandref04_root.mono _ _)
      | (with_reducible exact LeO.refl _)
      | (with_reducible exact LeO.none _)
      | (with_reducible refine LeO.ite ?_ ?_)
      | (with_reducible refine LeO.bind ?_ (fun _ => ?_))
      | exact ih0 _ _
      | exact ih1 _ _ _
      | exact sidebandref04_root.mono _ _
      | exact LeO.none _
      | refine LeO.ite ?_ ?_
      | refine LeO.bind ?_ (fun _ => ?_)
set_option maxHeartbeats 8000000 in
set_option maxRecDepth 100000 in
theorem sidebandref04_Quarter.calls (k : Nat)  (r : List Int) (w : World) (h : sidebandref04_Quarter.f k  = some r) :
    Calls Try.prog 21 #[] w fun e w' => ∃ v0_ : Value, e = .returned (v0_) ∧ Kd.R (Kd.int .i64) 2 w' w.heap.size (fun _ => True) v0_ r ∧ Below w.heap.size w w' := by
  have HB := Aside0.mk (Below.refl w.heap.size w)
  have H : (if 1025 ≤ 35184372088832 then ((some (List.replicate 1025 0 : List Int)).bind fun y101 => (if 0 < (y101.length : Int) then (sidebandref04_Quarter.l0 k (y101.set (0 : Int).toNat 16777216) 1024) else (none))) else (none)) = some r := h
  clear h
  by_cases c1 : 1025 ≤ 35184372088832
  · rw [if_pos c1] at H
    have c1b0 := eq_true c1
    have c1b1 : decide (1025 ≤ 35184372088832) = true := decide_eq_true c1
    clear c1
    obtain ⟨y101, hy101⟩ : ∃ y_ : List Int, y_ = (List.replicate 1025 0) := ⟨_, rfl⟩
    replace H : (if 0 < (y101.length : Int) then (sidebandref04_Quarter.l0 k (y101.set (0 : Int).toNat 16777216) 1024) else (none)) = some r := by first | (rw [hy101]; with_reducible exact H) | (have H2_ := (Option.bind_some _ _).symm.trans H; rw [hy101]; with_reducible exact H2_) | (have H2_ := (Option.bind_some _ _).symm.trans H; with_reducible exact H2_) | with_reducible exact H | (rw [hy101]; exact H) | exact H
    have Ny101 := Aside0.mk hy101
    clear hy101
    by_cases c2 : 0 < (y101.length : Int)
    · rw [if_pos c2] at H
      have c2b0 : decide (0 < (y101.length : Int)) = true := decide_eq_true c2
      have c2b1 : decide (0 < y101.length) = true := decide_eq_true (by omega)
      clear c2
      obtain ⟨y104, hy104⟩ : ∃ y_ : List Int, y_ = (y101.set (0 : Int).toNat 16777216) := ⟨_, rfl⟩
      replace H : (sidebandref04_Quarter.l0 k y104 1024) = some r := by first | (rw [hy104]; with_reducible exact H) | (have H2_ := (Option.bind_some _ _).symm.trans H; rw [hy104]; with_reducible exact H2_) | (have H2_ := (Option.bind_some _ _).symm.trans H; with_reducible exact H2_) | with_reducible exact H | (rw [hy104]; exact H) | exact H
      have Ny104 := Aside0.mk hy104
      clear hy104
      have H' := Aside0.mk H
      clear H
      go_enter Try.func21, Try.ntmps21
      go_wp2_with (first | ((with_reducible refine gate_dst (N := 6) rfl ?_); refine Kd.R_make (Kd.int .i64) _ 2 rfl (N := 6) rfl 31 _ _ rfl 1025 rfl rfl Try.underlying31 (.int .i64 0) 8 info2 rfl (by decide) (by omega) 0 (ok := fun _ => True) (okp := fun _ => True) rfl (fun _ hk => hk) trivial (by omega) (by omega) (Below.refl _ _) (Nat.le_refl _) ?_; intro v102 w4 ho5 hb hg_ hnew_; clear hg_ hnew_; (first | rw [← Ny101.out] at ho5 | (simp only [Int.reduceToNat] at ho5; rw [← Ny101.out] at ho5)); have n0_ := Aside0.mk (Kd.R_lower ho5 (below_size (by repeat (first | (with_reducible first | exact HB.out | apply below_alloc | apply pw_below_drewN | apply below_drew1) | exact HB.out)))); have n1_ := Aside0.mk (below_step (by repeat (first | (with_reducible first | exact HB.out | apply below_alloc | apply pw_below_drewN | apply below_drew1) | exact HB.out)) hb); clear HB; have HO103 := n0_; have HB := n1_; clear n0_ n1_; clear hb ho5; have p3 : 0 ≤ (0 : Int) := (by omega); have q3 : (0 : Int) < ((y101.length : Int) : Int) := of_decide_eq_true (by first | (with_reducible assumption) | assumption); have qi3 : (0 < y101.length) = True := eq_true (by omega); obtain ⟨go3, co3, eo3, gb3, gl3, cl3, HG3⟩ := Kd.R_form HO103.out (by omega); (first | cases eo3 | (injection eo3 with ea_ en_ ec_; (first | subst ea_ | (injection ea_ with ea_; subst ea_)); subst ec_; clear en_)); have GB3 := Aside0.mk gb3; have GG3 := Aside0.mk HG3; clear gb3 gl3 HG3; obtain ⟨hx3_0, hf3_0⟩ := Kd.R_celln 0 HO103.out (0 : Int) p3 q3; (try rw [show ((0 : Int)).toNat = 0 from rfl] at hx3_0); (try simp only [Nat.reduceMul, Nat.zero_mul, Nat.zero_add, Nat.reduceAdd] at hx3_0); (try rw [show ((0 : Int)).toNat = 0 from rfl] at hf3_0); (try simp only [Nat.reduceMul, Nat.zero_mul, Nat.zero_add, Nat.reduceAdd] at hf3_0); replace p3 := eq_true p3; replace q3 := eq_true q3; obtain ⟨hy6_, hz6_⟩ := Kd.R_celln 0 HO103.out (0 : Int) (by omega) (of_decide_eq_true (by first | (with_reducible assumption) | assumption)); (try simp only [Int.reduceToNat, Int.toNat_zero, Int.toNat_ofNat, Nat.reduceMul, Nat.zero_mul, Nat.zero_add] at hy6_ hz6_); (try rw [show ((0 : Int)).toNat = 0 from rfl] at hy6_); (try rw [show ((0 : Int)).toNat = 0 from rfl] at hz6_); have HP6 := Kd.R_putg HO103.out (0 : Int) 16777216) | ((with_reducible refine gate_store (t := 2) (p := 8) rfl ?_); (try (rw [drewN_self w4]; generalize hq_ : World.drewN w4 _ = w4; have n0_ := Aside0.mk (Kd.R_at hq_ HO103.out); have n1_ := Aside0.mk (below_at hq_ HB.out); clear hq_ HO103 HB; have HO103 := n0_; have HB := n1_; clear n0_ n1_; (try (obtain ⟨hy6_, hz6_⟩ := Kd.R_celln 0 HO103.out (0 : Int) (by omega) (of_decide_eq_true (by first | (with_reducible assumption) | assumption)))); (try (try simp only [Int.reduceToNat, Int.toNat_zero, Int.toNat_ofNat, Nat.reduceMul, Nat.zero_mul, Nat.zero_add] at hy6_ hz6_)); (try (try rw [show ((0 : Int)).toNat = 0 from rfl] at hy6_)); (try (try rw [show ((0 : Int)).toNat = 0 from rfl] at hz6_)); (try (have HP6 := Kd.R_putg HO103.out (0 : Int) 16777216)))); refine store_event (t := 2) (p := 8) (v := ?vo_w7) (w1 := (w4.setCell ⟨go3, (0 : Int).toNat, none⟩ (.int .i64 16777216))) ?hg ?ho ?hn ?hr ?_; (case ho => rfl); (case hg => rfl); (case hn => rfl); (case hr => first | (go_simp; done) | (go_simp; rfl)); intro w7 hw; have hg : w4.grownBy w7 (some go3) := (by rw [hw]; exact HP6.2); have hp_ : Kd.R (Kd.int .i64) 2 w7 w.heap.size (fun _ => True) (.slice (some ⟨go3, 0, none⟩) y101.length co3) y104 := (by rw [hw, Ny104.out]; exact HP6.1); clear HP6; have n0_ := Aside0.mk (hp_); have n1_ := Aside0.mk ((by rw [hw]; exact below_set (HB.out) GB3.out : Below w.heap.size w w7)); clear HO103; clear HB; have HO103 := n0_; have HB := n1_; clear n0_ n1_; clear hg hw hp_))
      repeat (go_quiet (first | ((with_reducible refine gate_dst (N := 6) rfl ?_); refine Kd.R_make (Kd.int .i64) _ 2 rfl (N := 6) rfl 31 _ _ rfl 1025 rfl rfl Try.underlying31 (.int .i64 0) 8 info2 rfl (by decide) (by omega) 0 (ok := fun _ => True) (okp := fun _ => True) rfl (fun _ hk => hk) trivial (by omega) (by omega) (Below.refl _ _) (Nat.le_refl _) ?_; intro v102 w4 ho5 hb hg_ hnew_; clear hg_ hnew_; (first | rw [← Ny101.out] at ho5 | (simp only [Int.reduceToNat] at ho5; rw [← Ny101.out] at ho5)); have n0_ := Aside0.mk (Kd.R_lower ho5 (below_size (by repeat (first | (with_reducible first | exact HB.out | apply below_alloc | apply pw_below_drewN | apply below_drew1) | exact HB.out)))); have n1_ := Aside0.mk (below_step (by repeat (first | (with_reducible first | exact HB.out | apply below_alloc | apply pw_below_drewN | apply below_drew1) | exact HB.out)) hb); clear HB; have HO103 := n0_; have HB := n1_; clear n0_ n1_; clear hb ho5; have p3 : 0 ≤ (0 : Int) := (by omega); have q3 : (0 : Int) < ((y101.length : Int) : Int) := of_decide_eq_true (by first | (with_reducible assumption) | assumption); have qi3 : (0 < y101.length) = True := eq_true (by omega); obtain ⟨go3, co3, eo3, gb3, gl3, cl3, HG3⟩ := Kd.R_form HO103.out (by omega); (first | cases eo3 | (injection eo3 with ea_ en_ ec_; (first | subst ea_ | (injection ea_ with ea_; subst ea_)); subst ec_; clear en_)); have GB3 := Aside0.mk gb3; have GG3 := Aside0.mk HG3; clear gb3 gl3 HG3; obtain ⟨hx3_0, hf3_0⟩ := Kd.R_celln 0 HO103.out (0 : Int) p3 q3; (try rw [show ((0 : Int)).toNat = 0 from rfl] at hx3_0); (try simp only [Nat.reduceMul, Nat.zero_mul, Nat.zero_add, Nat.reduceAdd] at hx3_0); (try rw [show ((0 : Int)).toNat = 0 from rfl] at hf3_0); (try simp only [Nat.reduceMul, Nat.zero_mul, Nat.zero_add, Nat.reduceAdd] at hf3_0); replace p3 := eq_true p3; replace q3 := eq_true q3; obtain ⟨hy6_, hz6_⟩ := Kd.R_celln 0 HO103.out (0 : Int) (by omega) (of_decide_eq_true (by first | (with_reducible assumption) | assumption)); (try simp only [Int.reduceToNat, Int.toNat_zero, Int.toNat_ofNat, Nat.reduceMul, Nat.zero_mul, Nat.zero_add] at hy6_ hz6_); (try rw [show ((0 : Int)).toNat = 0 from rfl] at hy6_); (try rw [show ((0 : Int)).toNat = 0 from rfl] at hz6_); have HP6 := Kd.R_putg HO103.out (0 : Int) 16777216) | ((with_reducible refine gate_store (t := 2) (p := 8) rfl ?_); (try (rw [drewN_self w4]; generalize hq_ : World.drewN w4 _ = w4; have n0_ := Aside0.mk (Kd.R_at hq_ HO103.out); have n1_ := Aside0.mk (below_at hq_ HB.out); clear hq_ HO103 HB; have HO103 := n0_; have HB := n1_; clear n0_ n1_; (try (obtain ⟨hy6_, hz6_⟩ := Kd.R_celln 0 HO103.out (0 : Int) (by omega) (of_decide_eq_true (by first | (with_reducible assumption) | assumption)))); (try (try simp only [Int.reduceToNat, Int.toNat_zero, Int.toNat_ofNat, Nat.reduceMul, Nat.zero_mul, Nat.zero_add] at hy6_ hz6_)); (try (try rw [show ((0 : Int)).toNat = 0 from rfl] at hy6_)); (try (try rw [show ((0 : Int)).toNat = 0 from rfl] at hz6_)); (try (have HP6 := Kd.R_putg HO103.out (0 : Int) 16777216)))); refine store_event (t := 2) (p := 8) (v := ?vo_w7) (w1 := (w4.setCell ⟨go3, (0 : Int).toNat, none⟩ (.int .i64 16777216))) ?hg ?ho ?hn ?hr ?_; (case ho => rfl); (case hg => rfl); (case hn => rfl); (case hr => first | (go_simp; done) | (go_simp; rfl)); intro w7 hw; have hg : w4.grownBy w7 (some go3) := (by rw [hw]; exact HP6.2); have hp_ : Kd.R (Kd.int .i64) 2 w7 w.heap.size (fun _ => True) (.slice (some ⟨go3, 0, none⟩) y101.length co3) y104 := (by rw [hw, Ny104.out]; exact HP6.1); clear HP6; have n0_ := Aside0.mk (hp_); have n1_ := Aside0.mk ((by rw [hw]; exact below_set (HB.out) GB3.out : Below w.heap.size w w7)); clear HO103; clear HB; have HO103 := n0_; have HB := n1_; clear n0_ n1_; clear hg hw hp_)); try go_wp2_with (first | ((with_reducible refine gate_dst (N := 6) rfl ?_); refine Kd.R_make (Kd.int .i64) _ 2 rfl (N := 6) rfl 31 _ _ rfl 1025 rfl rfl Try.underlying31 (.int .i64 0) 8 info2 rfl (by decide) (by omega) 0 (ok := fun _ => True) (okp := fun _ => True) rfl (fun _ hk => hk) trivial (by omega) (by omega) (Below.refl _ _) (Nat.le_refl _) ?_; intro v102 w4 ho5 hb hg_ hnew_; clear hg_ hnew_; (first | rw [← Ny101.out] at ho5 | (simp only [Int.reduceToNat] at ho5; rw [← Ny101.out] at ho5)); have n0_ := Aside0.mk (Kd.R_lower ho5 (below_size (by repeat (first | (with_reducible first | exact HB.out | apply below_alloc | apply pw_below_drewN | apply below_drew1) | exact HB.out)))); have n1_ := Aside0.mk (below_step (by repeat (first | (with_reducible first | exact HB.out | apply below_alloc | apply pw_below_drewN | apply below_drew1) | exact HB.out)) hb); clear HB; have HO103 := n0_; have HB := n1_; clear n0_ n1_; clear hb ho5; have p3 : 0 ≤ (0 : Int) := (by omega); have q3 : (0 : Int) < ((y101.length : Int) : Int) := of_decide_eq_true (by first | (with_reducible assumption) | assumption); have qi3 : (0 < y101.length) = True := eq_true (by omega); obtain ⟨go3, co3, eo3, gb3, gl3, cl3, HG3⟩ := Kd.R_form HO103.out (by omega); (first | cases eo3 | (injection eo3 with ea_ en_ ec_; (first | subst ea_ | (injection ea_ with ea_; subst ea_)); subst ec_; clear en_)); have GB3 := Aside0.mk gb3; have GG3 := Aside0.mk HG3; clear gb3 gl3 HG3; obtain ⟨hx3_0, hf3_0⟩ := Kd.R_celln 0 HO103.out (0 : Int) p3 q3; (try rw [show ((0 : Int)).toNat = 0 from rfl] at hx3_0); (try simp only [Nat.reduceMul, Nat.zero_mul, Nat.zero_add, Nat.reduceAdd] at hx3_0); (try rw [show ((0 : Int)).toNat = 0 from rfl] at hf3_0); (try simp only [Nat.reduceMul, Nat.zero_mul, Nat.zero_add, Nat.reduceAdd] at hf3_0); replace p3 := eq_true p3; replace q3 := eq_true q3; obtain ⟨hy6_, hz6_⟩ := Kd.R_celln 0 HO103.out (0 : Int) (by omega) (of_decide_eq_true (by first | (with_reducible assumption) | assumption)); (try simp only [Int.reduceToNat, Int.toNat_zero, Int.toNat_ofNat, Nat.reduceMul, Nat.zero_mul, Nat.zero_add] at hy6_ hz6_); (try rw [show ((0 : Int)).toNat = 0 from rfl] at hy6_); (try rw [show ((0 : Int)).toNat = 0 from rfl] at hz6_); have HP6 := Kd.R_putg HO103.out (0 : Int) 16777216) | ((with_reducible refine gate_store (t := 2) (p := 8) rfl ?_); (try (rw [drewN_self w4]; generalize hq_ : World.drewN w4 _ = w4; have n0_ := Aside0.mk (Kd.R_at hq_ HO103.out); have n1_ := Aside0.mk (below_at hq_ HB.out); clear hq_ HO103 HB; have HO103 := n0_; have HB := n1_; clear n0_ n1_; (try (obtain ⟨hy6_, hz6_⟩ := Kd.R_celln 0 HO103.out (0 : Int) (by omega) (of_decide_eq_true (by first | (with_reducible assumption) | assumption)))); (try (try simp only [Int.reduceToNat, Int.toNat_zero, Int.toNat_ofNat, Nat.reduceMul, Nat.zero_mul, Nat.zero_add] at hy6_ hz6_)); (try (try rw [show ((0 : Int)).toNat = 0 from rfl] at hy6_)); (try (try rw [show ((0 : Int)).toNat = 0 from rfl] at hz6_)); (try (have HP6 := Kd.R_putg HO103.out (0 : Int) 16777216)))); refine store_event (t := 2) (p := 8) (v := ?vo_w7) (w1 := (w4.setCell ⟨go3, (0 : Int).toNat, none⟩ (.int .i64 16777216))) ?hg ?ho ?hn ?hr ?_; (case ho => rfl); (case hg => rfl); (case hn => rfl); (case hr => first | (go_simp; done) | (go_simp; rfl)); intro w7 hw; have hg : w4.grownBy w7 (some go3) := (by rw [hw]; exact HP6.2); have hp_ : Kd.R (Kd.int .i64) 2 w7 w.heap.size (fun _ => True) (.slice (some ⟨go3, 0, none⟩) y101.length co3) y104 := (by rw [hw, Ny104.out]; exact HP6.1); clear HP6; have n0_ := Aside0.mk (hp_); have n1_ := Aside0.mk ((by rw [hw]; exact below_set (HB.out) GB3.out : Below w.heap.size w w7)); clear HO103; clear HB; have HO103 := n0_; have HB := n1_; clear n0_ n1_; clear hg hw hp_)))
      go_loopg [2] k (fun kq v2 w' => ∃ (x1_1 : List Int) (x2_1 : Int), v2 = .int .i64 x2_1 ∧ Aside0 (sidebandref04_Quarter.l0 kq x1_1 x2_1 = some r) ∧ Aside0 (kq ≤ k) ∧ Aside0 (Kd.R (Kd.int .i64) 2 w' w.heap.size (fun _ => True) (.slice (some ⟨go3, 0, none⟩) y101.length co3) x1_1) ∧ Aside0 (Below w.heap.size w w'))
      case atStart => exact ⟨(y104), (1024), (by first | rfl | (simp; done) | (simp [*]; done)), H', ⟨Nat.le_refl _⟩, ⟨by (with_reducible repeat (first | apply Kd.R_alloc | apply Kd.R_drewN | apply Kd.R_drew)); exact HO103.out⟩, ⟨by repeat (first | (with_reducible first | exact HB.out | apply below_alloc | apply pw_below_drewN | apply below_drew1) | exact HB.out)⟩⟩
      case round =>
        clear H'
        try clear c1
        try clear c1b0
        try clear c1b1
        try clear c2
        try clear c2b0
        try clear c2b1
        try clear p2
        try clear p3
        try clear q3
        try clear hx3
        try clear qi3
        try clear hf3
        try clear hx3_0
        try clear p3
        try clear q3
        obtain ⟨x1_1, x2_1, rfl, HA, HK1, HO_1, HB⟩ := hrel
        have hl1_1 := (Kd.R_reads' HO_1.out).1
        rw [hl1_1] at HO_1
        (try simp only [hl1_1])
        cases gk with
        | zero => exact absurd HA.out (by simp [sidebandref04_Quarter.l0])
        | succ k1 =>
          have H := HA.out
          clear HA
          simp only [sidebandref04_Quarter.l0] at H
          by_cases c8 : x2_1 > 1
          · rw [if_pos c8] at H
            have c8b0 : decide (1 < x2_1) = true := decide_eq_true c8
            clear c8
            by_cases c9 : 0 ≤ x2_1
            · rw [if_pos c9] at H
              have c9b0 : decide (0 ≤ x2_1) = true := decide_eq_true c9
              clear c9
              by_cases c10 : x2_1 < (x1_1.length : Int)
              · rw [if_pos c10] at H
                have c10b0 : decide (x2_1 < (x1_1.length : Int)) = true := decide_eq_true c10
                clear c10
                replace H := Option.bind_eq_some_iff.mp H
                obtain ⟨t106, A110, H⟩ := H
                replace H : (if 0 ≤ (wrap64 (Int.tdiv x2_1 2)) then (if (wrap64 (Int.tdiv x2_1 2)) < (x1_1.length : Int) then (sidebandref04_Quarter.l1 k1 (x1_1.set ((wrap64 (Int.tdiv x2_1 2)) : Int).toNat t106) x2_1 x2_1) else (none)) else (none)) = some r := H
                have A11 := Aside0.mk A110
                clear A110
                obtain ⟨ji12, hji12⟩ : ∃ j_ : Int, (wrap64 (Int.tdiv x2_1 2)) = j_ := ⟨_, rfl⟩
                replace H : (if 0 ≤ (ji12) then (if (ji12) < (x1_1.length : Int) then (sidebandref04_Quarter.l1 k1 (x1_1.set ((ji12) : Int).toNat t106) x2_1 x2_1) else (none)) else (none)) = some r := by first | (rw [hji12] at H; exact H) | (simp only [hji12] at H ⊢; exact H)
                (try rw [hji12] at A11)
                have hji12w : (IntKind.i64.wrap (Int.tdiv x2_1 2)) = ji12 := (i64_w _).trans hji12
                by_cases c13 : 0 ≤ (ji12)
                · rw [if_pos c13] at H
                  have c13b0 : decide (0 ≤ (ji12)) = true := decide_eq_true c13
                  clear c13
                  by_cases c14 : (ji12) < (x1_1.length : Int)
                  · rw [if_pos c14] at H
                    have c14b0 : decide ((ji12) < (x1_1.length : Int)) = true := decide_eq_true c14
                    clear c14
                    obtain ⟨y107, hy107⟩ : ∃ y_ : List Int, y_ = (x1_1.set ((ji12) : Int).toNat t106) := ⟨_, rfl⟩
                    replace H : (sidebandref04_Quarter.l1 k1 y107 x2_1 x2_1) = some r := by first | (rw [hy107]; with_reducible exact H) | (have H2_ := (Option.bind_some _ _).symm.trans H; rw [hy107]; with_reducible exact H2_) | (have H2_ := (Option.bind_some _ _).symm.trans H; with_reducible exact H2_) | with_reducible exact H | (rw [hy107]; exact H) | exact H
                    have Ny107 := Aside0.mk hy107
                    clear hy107
                    have H' := Aside0.mk H
                    clear H
                    have p105 : 0 ≤ (x2_1 : Int) := of_decide_eq_true (by first | (with_reducible assumption) | assumption)
                    have q105 : x2_1 < (x1_1.length : Int) := of_decide_eq_true (by first | (with_reducible assumption) | assumption)
                    obtain ⟨ad105, e105, hx105_0⟩ := Kd.at_int (Kd.R_reads' HO_1.out).2.2 x2_1 p105 q105
                    obtain rfl : (⟨go3, 0, none⟩ : Addr) = ad105 := (by injection e105)
                    (first | simp only [add_plain] at hx105_0 | simp only [add_at] at hx105_0 | simp only [Addr.add, Nat.zero_add] at hx105_0 | skip)
                    replace p105 := eq_true p105
                    replace q105 := eq_true q105
                    go_wp2_with (first | (go_at_call 46; (with_reducible refine (sidebandref04_root.calls k1 (wrap64 ((wrap64 (16777216 + (rd x1_1 x2_1))) * 8388608)) t106 _ A11.out).mono ?_); rintro e w' ⟨rfl, ⟨nd, rfl⟩⟩; (try first | exact ⟨rfl, _, World.drewN_drewN _ _ _⟩ | exact ⟨rfl, _, Eq.trans (World.drewN_drewN _ _ _) (congrArg (World.drewN _) (Nat.add_assoc _ _ _))⟩); have p15 : 0 ≤ ((ji12) : Int) := of_decide_eq_true (by first | (with_reducible assumption) | assumption); have q15 : ((ji12) : Int) < ((x1_1.length : Int) : Int) := of_decide_eq_true (by first | (with_reducible assumption) | assumption); obtain ⟨hx15_0, hf15_0⟩ := Kd.R_celln 0 HO_1.out ((ji12) : Int) p15 q15; replace p15 := eq_true p15; replace q15 := eq_true q15; obtain ⟨hy16_, hz16_⟩ := Kd.R_celln 0 HO_1.out ((ji12) : Int) (of_decide_eq_true (by first | (with_reducible assumption) | assumption)) (of_decide_eq_true (by first | (with_reducible assumption) | assumption)); have HP16 := Kd.R_putg HO_1.out ((ji12) : Int) t106) | ((with_reducible refine gate_store (t := 2) (p := 21) rfl ?_); (try (rw [drewN_self wr]; generalize hq_ : World.drewN wr _ = wr; have n0_ := Aside0.mk (Kd.R_at hq_ HO_1.out); have n1_ := Aside0.mk (below_at hq_ HB.out); clear hq_ HO_1 HB; have HO_1 := n0_; have HB := n1_; clear n0_ n1_; (try (obtain ⟨hy16_, hz16_⟩ := Kd.R_celln 0 HO_1.out ((ji12) : Int) (of_decide_eq_true (by first | (with_reducible assumption) | assumption)) (of_decide_eq_true (by first | (with_reducible assumption) | assumption)))); (try (have HP16 := Kd.R_putg HO_1.out ((ji12) : Int) t106)))); refine store_event (t := 2) (p := 21) (v := ?vo_w17) (w1 := (wr.setCell ⟨go3, ((ji12) : Int).toNat, none⟩ (.int .i64 t106))) ?hg ?ho ?hn ?hr ?_; (case ho => rfl); (case hg => rfl); (case hn => rfl); (case hr => first | (go_simp; done) | (go_simp; rfl)); intro w17 hw; have hg : wr.grownBy w17 (some go3) := (by rw [hw]; exact HP16.2); have hp_ : Kd.R (Kd.int .i64) 2 w17 w.heap.size (fun _ => True) (.slice (some ⟨go3, 0, none⟩) x1_1.length co3) y107 := (by rw [hw, Ny107.out]; exact HP16.1); clear HP16; have n0_ := Aside0.mk (hp_); have n1_ := Aside0.mk ((by rw [hw]; exact below_set (HB.out) GB3.out : Below w.heap.size w w17)); clear HO_1; clear HB; have HO_1 := n0_; have HB := n1_; clear n0_ n1_; clear hg hw hp_))
                    repeat (go_quiet (first | (go_at_call 46; (with_reducible refine (sidebandref04_root.calls k1 (wrap64 ((wrap64 (16777216 + (rd x1_1 x2_1))) * 8388608)) t106 _ A11.out).mono ?_); rintro e w' ⟨rfl, ⟨nd, rfl⟩⟩; (try first | exact ⟨rfl, _, World.drewN_drewN _ _ _⟩ | exact ⟨rfl, _, Eq.trans (World.drewN_drewN _ _ _) (congrArg (World.drewN _) (Nat.add_assoc _ _ _))⟩); have p15 : 0 ≤ ((ji12) : Int) := of_decide_eq_true (by first | (with_reducible assumption) | assumption); have q15 : ((ji12) : Int) < ((x1_1.length : Int) : Int) := of_decide_eq_true (by first | (with_reducible assumption) | assumption); obtain ⟨hx15_0, hf15_0⟩ := Kd.R_celln 0 HO_1.out ((ji12) : Int) p15 q15; replace p15 := eq_true p15; replace q15 := eq_true q15; obtain ⟨hy16_, hz16_⟩ := Kd.R_celln 0 HO_1.out ((ji12) : Int) (of_decide_eq_true (by first | (with_reducible assumption) | assumption)) (of_decide_eq_true (by first | (with_reducible assumption) | assumption)); have HP16 := Kd.R_putg HO_1.out ((ji12) : Int) t106) | ((with_reducible refine gate_store (t := 2) (p := 21) rfl ?_); (try (rw [drewN_self wr]; generalize hq_ : World.drewN wr _ = wr; have n0_ := Aside0.mk (Kd.R_at hq_ HO_1.out); have n1_ := Aside0.mk (below_at hq_ HB.out); clear hq_ HO_1 HB; have HO_1 := n0_; have HB := n1_; clear n0_ n1_; (try (obtain ⟨hy16_, hz16_⟩ := Kd.R_celln 0 HO_1.out ((ji12) : Int) (of_decide_eq_true (by first | (with_reducible assumption) | assumption)) (of_decide_eq_true (by first | (with_reducible assumption) | assumption)))); (try (have HP16 := Kd.R_putg HO_1.out ((ji12) : Int) t106)))); refine store_event (t := 2) (p := 21) (v := ?vo_w17) (w1 := (wr.setCell ⟨go3, ((ji12) : Int).toNat, none⟩ (.int .i64 t106))) ?hg ?ho ?hn ?hr ?_; (case ho => rfl); (case hg => rfl); (case hn => rfl); (case hr => first | (go_simp; done) | (go_simp; rfl)); intro w17 hw; have hg : wr.grownBy w17 (some go3) := (by rw [hw]; exact HP16.2); have hp_ : Kd.R (Kd.int .i64) 2 w17 w.heap.size (fun _ => True) (.slice (some ⟨go3, 0, none⟩) x1_1.length co3) y107 := (by rw [hw, Ny107.out]; exact HP16.1); clear HP16; have n0_ := Aside0.mk (hp_); have n1_ := Aside0.mk ((by rw [hw]; exact below_set (HB.out) GB3.out : Below w.heap.size w w17)); clear HO_1; clear HB; have HO_1 := n0_; have HB := n1_; clear n0_ n1_; clear hg hw hp_)); try go_wp2_with (first | (go_at_call 46; (with_reducible refine (sidebandref04_root.calls k1 (wrap64 ((wrap64 (16777216 + (rd x1_1 x2_1))) * 8388608)) t106 _ A11.out).mono ?_); rintro e w' ⟨rfl, ⟨nd, rfl⟩⟩; (try first | exact ⟨rfl, _, World.drewN_drewN _ _ _⟩ | exact ⟨rfl, _, Eq.trans (World.drewN_drewN _ _ _) (congrArg (World.drewN _) (Nat.add_assoc _ _ _))⟩); have p15 : 0 ≤ ((ji12) : Int) := of_decide_eq_true (by first | (with_reducible assumption) | assumption); have q15 : ((ji12) : Int) < ((x1_1.length : Int) : Int) := of_decide_eq_true (by first | (with_reducible assumption) | assumption); obtain ⟨hx15_0, hf15_0⟩ := Kd.R_celln 0 HO_1.out ((ji12) : Int) p15 q15; replace p15 := eq_true p15; replace q15 := eq_true q15; obtain ⟨hy16_, hz16_⟩ := Kd.R_celln 0 HO_1.out ((ji12) : Int) (of_decide_eq_true (by first | (with_reducible assumption) | assumption)) (of_decide_eq_true (by first | (with_reducible assumption) | assumption)); have HP16 := Kd.R_putg HO_1.out ((ji12) : Int) t106) | ((with_reducible refine gate_store (t := 2) (p := 21) rfl ?_); (try (rw [drewN_self wr]; generalize hq_ : World.drewN wr _ = wr; have n0_ := Aside0.mk (Kd.R_at hq_ HO_1.out); have n1_ := Aside0.mk (below_at hq_ HB.out); clear hq_ HO_1 HB; have HO_1 := n0_; have HB := n1_; clear n0_ n1_; (try (obtain ⟨hy16_, hz16_⟩ := Kd.R_celln 0 HO_1.out ((ji12) : Int) (of_decide_eq_true (by first | (with_reducible assumption) | assumption)) (of_decide_eq_true (by first | (with_reducible assumption) | assumption)))); (try (have HP16 := Kd.R_putg HO_1.out ((ji12) : Int) t106)))); refine store_event (t := 2) (p := 21) (v := ?vo_w17) (w1 := (wr.setCell ⟨go3, ((ji12) : Int).toNat, none⟩ (.int .i64 t106))) ?hg ?ho ?hn ?hr ?_; (case ho => rfl); (case hg => rfl); (case hn => rfl); (case hr => first | (go_simp; done) | (go_simp; rfl)); intro w17 hw; have hg : wr.grownBy w17 (some go3) := (by rw [hw]; exact HP16.2); have hp_ : Kd.R (Kd.int .i64) 2 w17 w.heap.size (fun _ => True) (.slice (some ⟨go3, 0, none⟩) x1_1.length co3) y107 := (by rw [hw, Ny107.out]; exact HP16.1); clear HP16; have n0_ := Aside0.mk (hp_); have n1_ := Aside0.mk ((by rw [hw]; exact below_set (HB.out) GB3.out : Below w.heap.size w w17)); clear HO_1; clear HB; have HO_1 := n0_; have HB := n1_; clear n0_ n1_; clear hg hw hp_)))
                    go_loopg [3] k1 (fun kq v3 w' => ∃ (x1_2 : List Int) (x3_2 : Int), v3 = .int .i64 x3_2 ∧ Aside0 (sidebandref04_Quarter.l1 kq x1_2 x2_1 x3_2 = some r) ∧ Aside0 (kq ≤ k1) ∧ Aside0 (Kd.R (Kd.int .i64) 2 w' w.heap.size (fun _ => True) (.slice (some ⟨go3, 0, none⟩) x1_1.length co3) x1_2) ∧ Aside0 (Below w.heap.size w w'))
                    case atStart => exact ⟨(y107), (x2_1), (by first | rfl | (simp; done) | (simp [*]; done)), H', ⟨Nat.le_refl _⟩, ⟨by (try simp only [hl1_1]); (with_reducible repeat (first | apply Kd.R_alloc | apply Kd.R_drewN | apply Kd.R_drew)); exact HO_1.out⟩, ⟨by repeat (first | (with_reducible first | exact HB.out | apply below_alloc | apply pw_below_drewN | apply below_drew1) | exact HB.out)⟩⟩
                    case round =>
                      clear H'
                      try clear c1
                      try clear c1b0
                      try clear c1b1
                      try clear p1
                      try clear q1
                      try clear hx1
                      try clear hf1
                      try clear c2
                      try clear c2b0
                      try clear c2b1
                      try clear p2
                      try clear p3
                      try clear q3
                      try clear hx3
                      try clear qi3
                      try clear hf3
                      try clear p6
                      try clear c8
                      try clear c8b0
                      try clear c9
                      try clear c9b0
                      try clear c10
                      try clear c10b0
                      try clear p10
                      try clear q10
                      try clear hx10
                      try clear c13
                      try clear c13b0
                      try clear c14
                      try clear c14b0
                      try clear p15
                      try clear q15
                      try clear hx15
                      try clear hf15
                      try clear hx105_0
                      try clear hx15_0
                      try clear hx3_0
                      try clear p105
                      try clear p15
                      try clear p2
                      try clear p3
                      try clear q105
                      try clear q15
                      try clear q3
                      obtain ⟨x1_2, x3_2, rfl, HA, HK2, HO_1, HB⟩ := hrel
                      have hl1_2 := (Kd.R_reads' HO_1.out).1
                      rw [hl1_2] at HO_1
                      (try simp only [hl1_2])
                      cases gk with
                      | zero => exact absurd HA.out (by simp [sidebandref04_Quarter.l1])
                      | succ k2 =>
                        have H := HA.out
                        clear HA
                        simp only [sidebandref04_Quarter.l1] at H
                        by_cases c18 : (wrap64 (x3_2 + x2_1)) ≤ 1024
                        · rw [if_pos c18] at H
                          have c18b0 : decide ((wrap64 (x3_2 + x2_1)) ≤ 1024) = true := decide_eq_true c18
                          clear c18
                          by_cases c19 : 0 ≤ x3_2
                          · rw [if_pos c19] at H
                            have c19b0 : decide (0 ≤ x3_2) = true := decide_eq_true c19
                            clear c19
                            by_cases c20 : x3_2 < (x1_2.length : Int)
                            · rw [if_pos c20] at H
                              have c20b0 : decide (x3_2 < (x1_2.length : Int)) = true := decide_eq_true c20
                              clear c20
                              obtain ⟨ji21, hji21⟩ : ∃ j_ : Int, (wrap64 (x3_2 + x2_1)) = j_ := ⟨_, rfl⟩
                              replace H : (if 0 ≤ (ji21) then (if (ji21) < (x1_2.length : Int) then (if 0 ≤ (wrap64 (Int.tdiv x2_1 2)) then (if (wrap64 (Int.tdiv x2_1 2)) < (x1_2.length : Int) then (if (rd x1_2 (wrap64 (Int.tdiv x2_1 2))) = 0 then (none) else (if (wrap64 (2 * (Int.tmod (wrap64 ((wrap64 ((rd x1_2 x3_2) + (rd x1_2 (ji21)))) * 8388608)) (rd x1_2 (wrap64 (Int.tdiv x2_1 2)))))) ≥ (rd x1_2 (wrap64 (Int.tdiv x2_1 2))) then (if 0 ≤ (wrap64 (x3_2 + (wrap64 (Int.tdiv x2_1 2)))) then (if (wrap64 (x3_2 + (wrap64 (Int.tdiv x2_1 2)))) < (x1_2.length : Int) then (sidebandref04_Quarter.l1 k2 (x1_2.set ((wrap64 (x3_2 + (wrap64 (Int.tdiv x2_1 2)))) : Int).toNat (wrap64 ((wrap64 (Int.tdiv (wrap64 ((wrap64 ((rd x1_2 x3_2) + (rd x1_2 (ji21)))) * 8388608)) (rd x1_2 (wrap64 (Int.tdiv x2_1 2))))) + 1))) x2_1 ji21) else (none)) else (none)) else (if 0 ≤ (wrap64 (x3_2 + (wrap64 (Int.tdiv x2_1 2)))) then (if (wrap64 (x3_2 + (wrap64 (Int.tdiv x2_1 2)))) < (x1_2.length : Int) then (sidebandref04_Quarter.l1 k2 (x1_2.set ((wrap64 (x3_2 + (wrap64 (Int.tdiv x2_1 2)))) : Int).toNat (wrap64 (Int.tdiv (wrap64 ((wrap64 ((rd x1_2 x3_2) + (rd x1_2 (ji21)))) * 8388608)) (rd x1_2 (wrap64 (Int.tdiv x2_1 2)))))) x2_1 ji21) else (none)) else (none)))) else (none)) else (none)) else (none)) else (none)) = some r := by first | (rw [hji21] at H; exact H) | (simp only [hji21] at H ⊢; exact H)
                              (try rw [hji21] at c18b0)
                              have hji21w : (IntKind.i64.wrap (x3_2 + x2_1)) = ji21 := (i64_w _).trans hji21
                              by_cases c22 : 0 ≤ (ji21)
                              · rw [if_pos c22] at H
                                have c22b0 : decide (0 ≤ (ji21)) = true := decide_eq_true c22
                                clear c22
                                by_cases c23 : (ji21) < (x1_2.length : Int)
                                · rw [if_pos c23] at H
                                  have c23b0 : decide ((ji21) < (x1_2.length : Int)) = true := decide_eq_true c23
                                  clear c23
                                  obtain ⟨ji24, hji24⟩ : ∃ j_ : Int, (wrap64 (Int.tdiv x2_1 2)) = j_ := ⟨_, rfl⟩
                                  replace H : (if 0 ≤ (ji24) then (if (ji24) < (x1_2.length : Int) then (if (rd x1_2 (ji24)) = 0 then (none) else (if (wrap64 (2 * (Int.tmod (wrap64 ((wrap64 ((rd x1_2 x3_2) + (rd x1_2 (ji21)))) * 8388608)) (rd x1_2 (ji24))))) ≥ (rd x1_2 (ji24)) then (if 0 ≤ (wrap64 (x3_2 + (ji24))) then (if (wrap64 (x3_2 + (ji24))) < (x1_2.length : Int) then (sidebandref04_Quarter.l1 k2 (x1_2.set ((wrap64 (x3_2 + (ji24))) : Int).toNat (wrap64 ((wrap64 (Int.tdiv (wrap64 ((wrap64 ((rd x1_2 x3_2) + (rd x1_2 (ji21)))) * 8388608)) (rd x1_2 (ji24)))) + 1))) x2_1 ji21) else (none)) else (none)) else (if 0 ≤ (wrap64 (x3_2 + (ji24))) then (if (wrap64 (x3_2 + (ji24))) < (x1_2.length : Int) then (sidebandref04_Quarter.l1 k2 (x1_2.set ((wrap64 (x3_2 + (ji24))) : Int).toNat (wrap64 (Int.tdiv (wrap64 ((wrap64 ((rd x1_2 x3_2) + (rd x1_2 (ji21)))) * 8388608)) (rd x1_2 (ji24))))) x2_1 ji21) else (none)) else (none)))) else (none)) else (none)) = some r := by first | (rw [hji24] at H; exact H) | (simp only [hji24] at H ⊢; exact H)
                                  have hji24w : (IntKind.i64.wrap (Int.tdiv x2_1 2)) = ji24 := (i64_w _).trans hji24
                                  obtain rfl : ji24 = ji12 := hji24w.symm.trans hji12w
                                  by_cases c25 : 0 ≤ (ji24)
                                  · rw [if_pos c25] at H
                                    have c25b0 : decide (0 ≤ (ji24)) = true := decide_eq_true c25
                                    clear c25
                                    by_cases c26 : (ji24) < (x1_2.length : Int)
                                    · rw [if_pos c26] at H
                                      have c26b0 : decide ((ji24) < (x1_2.length : Int)) = true := decide_eq_true c26
                                      clear c26
                                      by_cases c27 : (rd x1_2 (ji24)) = 0
                                      · rw [if_pos c27] at H
                                        exact absurd H (by simp)
                                      · rw [if_neg c27] at H
                                        have c27b0 : ((rd x1_2 (ji24)) == 0) = false := beq_eq_false_iff_ne.mpr c27
                                        have c27b1 : ((rd x1_2 (ji24)) != 0) = true := bne_iff_ne.mpr c27
                                        by_cases c28 : (wrap64 (2 * (Int.tmod (wrap64 ((wrap64 ((rd x1_2 x3_2) + (rd x1_2 (ji21)))) * 8388608)) (rd x1_2 (ji24))))) ≥ (rd x1_2 (ji24))
                                        · rw [if_pos c28] at H
                                          have c28b0 : decide ((rd x1_2 (ji24)) ≤ (wrap64 (2 * (Int.tmod (wrap64 ((wrap64 ((rd x1_2 x3_2) + (rd x1_2 (ji21)))) * 8388608)) (rd x1_2 (ji24)))))) = true := decide_eq_true c28
                                          clear c28
                                          obtain ⟨ji29, hji29⟩ : ∃ j_ : Int, (wrap64 (x3_2 + (ji24))) = j_ := ⟨_, rfl⟩
                                          replace H : (if 0 ≤ (ji29) then (if (ji29) < (x1_2.length : Int) then (sidebandref04_Quarter.l1 k2 (x1_2.set ((ji29) : Int).toNat (wrap64 ((wrap64 (Int.tdiv (wrap64 ((wrap64 ((rd x1_2 x3_2) + (rd x1_2 (ji21)))) * 8388608)) (rd x1_2 (ji24)))) + 1))) x2_1 ji21) else (none)) else (none)) = some r := by first | (rw [hji29] at H; exact H) | (simp only [hji29] at H ⊢; exact H)
                                          have hji29w : (IntKind.i64.wrap (x3_2 + (ji24))) = ji29 := (i64_w _).trans hji29
                                          by_cases c30 : 0 ≤ (ji29)
                                          · rw [if_pos c30] at H
                                            have c30b0 : decide (0 ≤ (ji29)) = true := decide_eq_true c30
                                            clear c30
                                            by_cases c31 : (ji29) < (x1_2.length : Int)
                                            · rw [if_pos c31] at H
                                              have c31b0 : decide ((ji29) < (x1_2.length : Int)) = true := decide_eq_true c31
                                              clear c31
                                              obtain ⟨y113, hy113⟩ : ∃ y_ : List Int, y_ = (x1_2.set ((ji29) : Int).toNat (wrap64 ((wrap64 (Int.tdiv (wrap64 ((wrap64 ((rd x1_2 x3_2) + (rd x1_2 (ji21)))) * 8388608)) (rd x1_2 (ji24)))) + 1))) := ⟨_, rfl⟩
                                              replace H : (sidebandref04_Quarter.l1 k2 y113 x2_1 ji21) = some r := by first | (rw [hy113]; with_reducible exact H) | (have H2_ := (Option.bind_some _ _).symm.trans H; rw [hy113]; with_reducible exact H2_) | (have H2_ := (Option.bind_some _ _).symm.trans H; with_reducible exact H2_) | with_reducible exact H | (rw [hy113]; exact H) | exact H
                                              have Ny113 := Aside0.mk hy113
                                              clear hy113
                                              have H' := Aside0.mk H
                                              clear H
                                              have p108 : 0 ≤ (x3_2 : Int) := of_decide_eq_true (by first | (with_reducible assumption) | assumption)
                                              have q108 : x3_2 < (x1_2.length : Int) := of_decide_eq_true (by first | (with_reducible assumption) | assumption)
                                              obtain ⟨ad108, e108, hx108_0⟩ := Kd.at_int (Kd.R_reads' HO_1.out).2.2 x3_2 p108 q108
                                              obtain rfl : (⟨go3, 0, none⟩ : Addr) = ad108 := (by injection e108)
                                              (first | simp only [add_plain] at hx108_0 | simp only [add_at] at hx108_0 | simp only [Addr.add, Nat.zero_add] at hx108_0 | skip)
                                              replace p108 := eq_true p108
                                              replace q108 := eq_true q108
                                              have p109 : 0 ≤ ((ji21) : Int) := of_decide_eq_true (by first | (with_reducible assumption) | assumption)
                                              have q109 : (ji21) < (x1_2.length : Int) := of_decide_eq_true (by first | (with_reducible assumption) | assumption)
                                              obtain ⟨ad109, e109, hx109_0⟩ := Kd.at_int (Kd.R_reads' HO_1.out).2.2 (ji21) p109 q109
                                              obtain rfl : (⟨go3, 0, none⟩ : Addr) = ad109 := (by injection e109)
                                              (first | simp only [add_plain] at hx109_0 | simp only [add_at] at hx109_0 | simp only [Addr.add, Nat.zero_add] at hx109_0 | skip)
                                              replace p109 := eq_true p109
                                              replace q109 := eq_true q109
                                              have p110 : 0 ≤ ((ji24) : Int) := of_decide_eq_true (by first | (with_reducible assumption) | assumption)
                                              have q110 : (ji24) < (x1_2.length : Int) := of_decide_eq_true (by first | (with_reducible assumption) | assumption)
                                              obtain ⟨ad110, e110, hx110_0⟩ := Kd.at_int (Kd.R_reads' HO_1.out).2.2 (ji24) p110 q110
                                              obtain rfl : (⟨go3, 0, none⟩ : Addr) = ad110 := (by injection e110)
                                              (first | simp only [add_plain] at hx110_0 | simp only [add_at] at hx110_0 | simp only [Addr.add, Nat.zero_add] at hx110_0 | skip)
                                              replace p110 := eq_true p110
                                              replace q110 := eq_true q110
                                              have p111 : 0 ≤ ((ji24) : Int) := of_decide_eq_true (by first | (with_reducible assumption) | assumption)
                                              have q111 : (ji24) < (x1_2.length : Int) := of_decide_eq_true (by first | (with_reducible assumption) | assumption)
                                              obtain ⟨ad111, e111, hx111_0⟩ := Kd.at_int (Kd.R_reads' HO_1.out).2.2 (ji24) p111 q111
                                              obtain rfl : (⟨go3, 0, none⟩ : Addr) = ad111 := (by injection e111)
                                              (first | simp only [add_plain] at hx111_0 | simp only [add_at] at hx111_0 | simp only [Addr.add, Nat.zero_add] at hx111_0 | skip)
                                              replace p111 := eq_true p111
                                              replace q111 := eq_true q111
                                              have p112 : 0 ≤ ((ji24) : Int) := of_decide_eq_true (by first | (with_reducible assumption) | assumption)
                                              have q112 : (ji24) < (x1_2.length : Int) := of_decide_eq_true (by first | (with_reducible assumption) | assumption)
                                              obtain ⟨ad112, e112, hx112_0⟩ := Kd.at_int (Kd.R_reads' HO_1.out).2.2 (ji24) p112 q112
                                              obtain rfl : (⟨go3, 0, none⟩ : Addr) = ad112 := (by injection e112)
                                              (first | simp only [add_plain] at hx112_0 | simp only [add_at] at hx112_0 | simp only [Addr.add, Nat.zero_add] at hx112_0 | skip)
                                              replace p112 := eq_true p112
                                              replace q112 := eq_true q112
                                              have p32 : 0 ≤ ((ji29) : Int) := of_decide_eq_true (by first | (with_reducible assumption) | assumption)
                                              have q32 : ((ji29) : Int) < ((x1_2.length : Int) : Int) := of_decide_eq_true (by first | (with_reducible assumption) | assumption)
                                              obtain ⟨hx32_0, hf32_0⟩ := Kd.R_celln 0 HO_1.out ((ji29) : Int) p32 q32
                                              replace p32 := eq_true p32
                                              replace q32 := eq_true q32
                                              have HP33 := Kd.R_putg HO_1.out ((ji29) : Int) (wrap64 ((wrap64 (Int.tdiv (wrap64 ((wrap64 ((rd x1_2 x3_2) + (rd x1_2 (ji21)))) * 8388608)) (rd x1_2 (ji24)))) + 1))
                                              go_wp2_with (first | ((with_reducible refine gate_store (t := 2) (p := 71) rfl ?_); (try (rw [drewN_self wr]; generalize hq_ : World.drewN wr _ = wr; have n0_ := Aside0.mk (Kd.R_at hq_ HO_1.out); have n1_ := Aside0.mk (below_at hq_ HB.out); clear hq_ HO_1 HB; have HO_1 := n0_; have HB := n1_; clear n0_ n1_; (try (have HP33 := Kd.R_putg HO_1.out ((ji29) : Int) (wrap64 ((wrap64 (Int.tdiv (wrap64 ((wrap64 ((rd x1_2 x3_2) + (rd x1_2 (ji21)))) * 8388608)) (rd x1_2 (ji24)))) + 1)))))); refine store_event (t := 2) (p := 71) (v := ?vo_w34) (w1 := (wr.setCell ⟨go3, ((ji29) : Int).toNat, none⟩ (.int .i64 (wrap64 ((wrap64 (Int.tdiv (wrap64 ((wrap64 ((rd x1_2 x3_2) + (rd x1_2 (ji21)))) * 8388608)) (rd x1_2 (ji24)))) + 1))))) ?hg ?ho ?hn ?hr ?_; (case ho => rfl); (case hg => rfl); (case hn => rfl); (case hr => first | (go_simp; done) | (go_simp; rfl)); intro w34 hw; have hg : wr.grownBy w34 (some go3) := (by rw [hw]; exact HP33.2); have hp_ : Kd.R (Kd.int .i64) 2 w34 w.heap.size (fun _ => True) (.slice (some ⟨go3, 0, none⟩) x1_2.length co3) y113 := (by rw [hw, Ny113.out]; exact HP33.1); clear HP33; have n0_ := Aside0.mk (hp_); have n1_ := Aside0.mk ((by rw [hw]; exact below_set (HB.out) GB3.out : Below w.heap.size w w34)); clear HO_1; clear HB; have HO_1 := n0_; have HB := n1_; clear n0_ n1_; clear hg hw hp_))
                                              repeat (go_quiet (first | ((with_reducible refine gate_store (t := 2) (p := 71) rfl ?_); (try (rw [drewN_self wr]; generalize hq_ : World.drewN wr _ = wr; have n0_ := Aside0.mk (Kd.R_at hq_ HO_1.out); have n1_ := Aside0.mk (below_at hq_ HB.out); clear hq_ HO_1 HB; have HO_1 := n0_; have HB := n1_; clear n0_ n1_; (try (have HP33 := Kd.R_putg HO_1.out ((ji29) : Int) (wrap64 ((wrap64 (Int.tdiv (wrap64 ((wrap64 ((rd x1_2 x3_2) + (rd x1_2 (ji21)))) * 8388608)) (rd x1_2 (ji24)))) + 1)))))); refine store_event (t := 2) (p := 71) (v := ?vo_w34) (w1 := (wr.setCell ⟨go3, ((ji29) : Int).toNat, none⟩ (.int .i64 (wrap64 ((wrap64 (Int.tdiv (wrap64 ((wrap64 ((rd x1_2 x3_2) + (rd x1_2 (ji21)))) * 8388608)) (rd x1_2 (ji24)))) + 1))))) ?hg ?ho ?hn ?hr ?_; (case ho => rfl); (case hg => rfl); (case hn => rfl); (case hr => first | (go_simp; done) | (go_simp; rfl)); intro w34 hw; have hg : wr.grownBy w34 (some go3) := (by rw [hw]; exact HP33.2); have hp_ : Kd.R (Kd.int .i64) 2 w34 w.heap.size (fun _ => True) (.slice (some ⟨go3, 0, none⟩) x1_2.length co3) y113 := (by rw [hw, Ny113.out]; exact HP33.1); clear HP33; have n0_ := Aside0.mk (hp_); have n1_ := Aside0.mk ((by rw [hw]; exact below_set (HB.out) GB3.out : Below w.heap.size w w34)); clear HO_1; clear HB; have HO_1 := n0_; have HB := n1_; clear n0_ n1_; clear hg hw hp_)); try go_wp2_with (first | ((with_reducible refine gate_store (t := 2) (p := 71) rfl ?_); (try (rw [drewN_self wr]; generalize hq_ : World.drewN wr _ = wr; have n0_ := Aside0.mk (Kd.R_at hq_ HO_1.out); have n1_ := Aside0.mk (below_at hq_ HB.out); clear hq_ HO_1 HB; have HO_1 := n0_; have HB := n1_; clear n0_ n1_; (try (have HP33 := Kd.R_putg HO_1.out ((ji29) : Int) (wrap64 ((wrap64 (Int.tdiv (wrap64 ((wrap64 ((rd x1_2 x3_2) + (rd x1_2 (ji21)))) * 8388608)) (rd x1_2 (ji24)))) + 1)))))); refine store_event (t := 2) (p := 71) (v := ?vo_w34) (w1 := (wr.setCell ⟨go3, ((ji29) : Int).toNat, none⟩ (.int .i64 (wrap64 ((wrap64 (Int.tdiv (wrap64 ((wrap64 ((rd x1_2 x3_2) + (rd x1_2 (ji21)))) * 8388608)) (rd x1_2 (ji24)))) + 1))))) ?hg ?ho ?hn ?hr ?_; (case ho => rfl); (case hg => rfl); (case hn => rfl); (case hr => first | (go_simp; done) | (go_simp; rfl)); intro w34 hw; have hg : wr.grownBy w34 (some go3) := (by rw [hw]; exact HP33.2); have hp_ : Kd.R (Kd.int .i64) 2 w34 w.heap.size (fun _ => True) (.slice (some ⟨go3, 0, none⟩) x1_2.length co3) y113 := (by rw [hw, Ny113.out]; exact HP33.1); clear HP33; have n0_ := Aside0.mk (hp_); have n1_ := Aside0.mk ((by rw [hw]; exact below_set (HB.out) GB3.out : Below w.heap.size w w34)); clear HO_1; clear HB; have HO_1 := n0_; have HB := n1_; clear n0_ n1_; clear hg hw hp_)))
                                              (try simp only [← hl1_2])
                                              go_roundg k2
                                              case measure => have := HK1.out; have := HK2.out; omega
                                              case rel => exact ⟨(y113), (ji21), (by first | rfl | (simp; done) | (simp only [← hji21] <;> (first | rfl | simp)) | (simp [*]; done)), H', ⟨by have := HK1.out; have := HK2.out; omega⟩, ⟨by (try simp only [hl1_1]); (try simp only [hl1_2]); (with_reducible repeat (first | apply Kd.R_alloc | apply Kd.R_drewN | apply Kd.R_drew)); first | exact HO_1.out | (rw [Ny113.out]; exact (Kd.R_putg (Kd.R_drewN HO_1.out _) _ _).1)⟩, ⟨by first | exact below_set (pw_below_drewN HB.out _) GB3.out | repeat (first | (with_reducible first | exact HB.out | apply below_alloc | apply pw_below_drewN | apply below_drew1) | exact HB.out)⟩⟩
                                            · rw [if_neg c31] at H
                                              exact absurd H (by simp)
                                          · rw [if_neg c30] at H
                                            exact absurd H (by simp)
                                        · rw [if_neg c28] at H
                                          have c28b0 : decide ((rd x1_2 (ji24)) ≤ (wrap64 (2 * (Int.tmod (wrap64 ((wrap64 ((rd x1_2 x3_2) + (rd x1_2 (ji21)))) * 8388608)) (rd x1_2 (ji24)))))) = false := decide_eq_false c28
                                          clear c28
                                          obtain ⟨ji35, hji35⟩ : ∃ j_ : Int, (wrap64 (x3_2 + (ji24))) = j_ := ⟨_, rfl⟩
                                          replace H : (if 0 ≤ (ji35) then (if (ji35) < (x1_2.length : Int) then (sidebandref04_Quarter.l1 k2 (x1_2.set ((ji35) : Int).toNat (wrap64 (Int.tdiv (wrap64 ((wrap64 ((rd x1_2 x3_2) + (rd x1_2 (ji21)))) * 8388608)) (rd x1_2 (ji24))))) x2_1 ji21) else (none)) else (none)) = some r := by first | (rw [hji35] at H; exact H) | (simp only [hji35] at H ⊢; exact H)
                                          have hji35w : (IntKind.i64.wrap (x3_2 + (ji24))) = ji35 := (i64_w _).trans hji35
                                          by_cases c36 : 0 ≤ (ji35)
                                          · rw [if_pos c36] at H
                                            have c36b0 : decide (0 ≤ (ji35)) = true := decide_eq_true c36
                                            clear c36
                                            by_cases c37 : (ji35) < (x1_2.length : Int)
                                            · rw [if_pos c37] at H
                                              have c37b0 : decide ((ji35) < (x1_2.length : Int)) = true := decide_eq_true c37
                                              clear c37
                                              obtain ⟨y114, hy114⟩ : ∃ y_ : List Int, y_ = (x1_2.set ((ji35) : Int).toNat (wrap64 (Int.tdiv (wrap64 ((wrap64 ((rd x1_2 x3_2) + (rd x1_2 (ji21)))) * 8388608)) (rd x1_2 (ji24))))) := ⟨_, rfl⟩
                                              replace H : (sidebandref04_Quarter.l1 k2 y114 x2_1 ji21) = some r := by first | (rw [hy114]; with_reducible exact H) | (have H2_ := (Option.bind_some _ _).symm.trans H; rw [hy114]; with_reducible exact H2_) | (have H2_ := (Option.bind_some _ _).symm.trans H; with_reducible exact H2_) | with_reducible exact H | (rw [hy114]; exact H) | exact H
                                              have Ny114 := Aside0.mk hy114
                                              clear hy114
                                              have H' := Aside0.mk H
                                              clear H
                                              have p108 : 0 ≤ (x3_2 : Int) := of_decide_eq_true (by first | (with_reducible assumption) | assumption)
                                              have q108 : x3_2 < (x1_2.length : Int) := of_decide_eq_true (by first | (with_reducible assumption) | assumption)
                                              obtain ⟨ad108, e108, hx108_0⟩ := Kd.at_int (Kd.R_reads' HO_1.out).2.2 x3_2 p108 q108
                                              obtain rfl : (⟨go3, 0, none⟩ : Addr) = ad108 := (by injection e108)
                                              (first | simp only [add_plain] at hx108_0 | simp only [add_at] at hx108_0 | simp only [Addr.add, Nat.zero_add] at hx108_0 | skip)
                                              replace p108 := eq_true p108
                                              replace q108 := eq_true q108
                                              have p109 : 0 ≤ ((ji21) : Int) := of_decide_eq_true (by first | (with_reducible assumption) | assumption)
                                              have q109 : (ji21) < (x1_2.length : Int) := of_decide_eq_true (by first | (with_reducible assumption) | assumption)
                                              obtain ⟨ad109, e109, hx109_0⟩ := Kd.at_int (Kd.R_reads' HO_1.out).2.2 (ji21) p109 q109
                                              obtain rfl : (⟨go3, 0, none⟩ : Addr) = ad109 := (by injection e109)
                                              (first | simp only [add_plain] at hx109_0 | simp only [add_at] at hx109_0 | simp only [Addr.add, Nat.zero_add] at hx109_0 | skip)
                                              replace p109 := eq_true p109
                                              replace q109 := eq_true q109
                                              have p110 : 0 ≤ ((ji24) : Int) := of_decide_eq_true (by first | (with_reducible assumption) | assumption)
                                              have q110 : (ji24) < (x1_2.length : Int) := of_decide_eq_true (by first | (with_reducible assumption) | assumption)
                                              obtain ⟨ad110, e110, hx110_0⟩ := Kd.at_int (Kd.R_reads' HO_1.out).2.2 (ji24) p110 q110
                                              obtain rfl : (⟨go3, 0, none⟩ : Addr) = ad110 := (by injection e110)
                                              (first | simp only [add_plain] at hx110_0 | simp only [add_at] at hx110_0 | simp only [Addr.add, Nat.zero_add] at hx110_0 | skip)
                                              replace p110 := eq_true p110
                                              replace q110 := eq_true q110
                                              have p111 : 0 ≤ ((ji24) : Int) := of_decide_eq_true (by first | (with_reducible assumption) | assumption)
                                              have q111 : (ji24) < (x1_2.length : Int) := of_decide_eq_true (by first | (with_reducible assumption) | assumption)
                                              obtain ⟨ad111, e111, hx111_0⟩ := Kd.at_int (Kd.R_reads' HO_1.out).2.2 (ji24) p111 q111
                                              obtain rfl : (⟨go3, 0, none⟩ : Addr) = ad111 := (by injection e111)
                                              (first | simp only [add_plain] at hx111_0 | simp only [add_at] at hx111_0 | simp only [Addr.add, Nat.zero_add] at hx111_0 | skip)
                                              replace p111 := eq_true p111
                                              replace q111 := eq_true q111
                                              have p112 : 0 ≤ ((ji24) : Int) := of_decide_eq_true (by first | (with_reducible assumption) | assumption)
                                              have q112 : (ji24) < (x1_2.length : Int) := of_decide_eq_true (by first | (with_reducible assumption) | assumption)
                                              obtain ⟨ad112, e112, hx112_0⟩ := Kd.at_int (Kd.R_reads' HO_1.out).2.2 (ji24) p112 q112
                                              obtain rfl : (⟨go3, 0, none⟩ : Addr) = ad112 := (by injection e112)
                                              (first | simp only [add_plain] at hx112_0 | simp only [add_at] at hx112_0 | simp only [Addr.add, Nat.zero_add] at hx112_0 | skip)
                                              replace p112 := eq_true p112
                                              replace q112 := eq_true q112
                                              have p38 : 0 ≤ ((ji35) : Int) := of_decide_eq_true (by first | (with_reducible assumption) | assumption)
                                              have q38 : ((ji35) : Int) < ((x1_2.length : Int) : Int) := of_decide_eq_true (by first | (with_reducible assumption) | assumption)
                                              obtain ⟨hx38_0, hf38_0⟩ := Kd.R_celln 0 HO_1.out ((ji35) : Int) p38 q38
                                              replace p38 := eq_true p38
                                              replace q38 := eq_true q38
                                              have HP39 := Kd.R_putg HO_1.out ((ji35) : Int) (wrap64 (Int.tdiv (wrap64 ((wrap64 ((rd x1_2 x3_2) + (rd x1_2 (ji21)))) * 8388608)) (rd x1_2 (ji24))))
                                              go_wp2_with (first | ((with_reducible refine gate_store (t := 2) (p := 71) rfl ?_); (try (rw [drewN_self wr]; generalize hq_ : World.drewN wr _ = wr; have n0_ := Aside0.mk (Kd.R_at hq_ HO_1.out); have n1_ := Aside0.mk (below_at hq_ HB.out); clear hq_ HO_1 HB; have HO_1 := n0_; have HB := n1_; clear n0_ n1_; (try (have HP39 := Kd.R_putg HO_1.out ((ji35) : Int) (wrap64 (Int.tdiv (wrap64 ((wrap64 ((rd x1_2 x3_2) + (rd x1_2 (ji21)))) * 8388608)) (rd x1_2 (ji24)))))))); refine store_event (t := 2) (p := 71) (v := ?vo_w40) (w1 := (wr.setCell ⟨go3, ((ji35) : Int).toNat, none⟩ (.int .i64 (wrap64 (Int.tdiv (wrap64 ((wrap64 ((rd x1_2 x3_2) + (rd x1_2 (ji21)))) * 8388608)) (rd x1_2 (ji24))))))) ?hg ?ho ?hn ?hr ?_; (case ho => rfl); (case hg => rfl); (case hn => rfl); (case hr => first | (go_simp; done) | (go_simp; rfl)); intro w40 hw; have hg : wr.grownBy w40 (some go3) := (by rw [hw]; exact HP39.2); have hp_ : Kd.R (Kd.int .i64) 2 w40 w.heap.size (fun _ => True) (.slice (some ⟨go3, 0, none⟩) x1_2.length co3) y114 := (by rw [hw, Ny114.out]; exact HP39.1); clear HP39; have n0_ := Aside0.mk (hp_); have n1_ := Aside0.mk ((by rw [hw]; exact below_set (HB.out) GB3.out : Below w.heap.size w w40)); clear HO_1; clear HB; have HO_1 := n0_; have HB := n1_; clear n0_ n1_; clear hg hw hp_))
                                              repeat (go_quiet (first | ((with_reducible refine gate_store (t := 2) (p := 71) rfl ?_); (try (rw [drewN_self wr]; generalize hq_ : World.drewN wr _ = wr; have n0_ := Aside0.mk (Kd.R_at hq_ HO_1.out); have n1_ := Aside0.mk (below_at hq_ HB.out); clear hq_ HO_1 HB; have HO_1 := n0_; have HB := n1_; clear n0_ n1_; (try (have HP39 := Kd.R_putg HO_1.out ((ji35) : Int) (wrap64 (Int.tdiv (wrap64 ((wrap64 ((rd x1_2 x3_2) + (rd x1_2 (ji21)))) * 8388608)) (rd x1_2 (ji24)))))))); refine store_event (t := 2) (p := 71) (v := ?vo_w40) (w1 := (wr.setCell ⟨go3, ((ji35) : Int).toNat, none⟩ (.int .i64 (wrap64 (Int.tdiv (wrap64 ((wrap64 ((rd x1_2 x3_2) + (rd x1_2 (ji21)))) * 8388608)) (rd x1_2 (ji24))))))) ?hg ?ho ?hn ?hr ?_; (case ho => rfl); (case hg => rfl); (case hn => rfl); (case hr => first | (go_simp; done) | (go_simp; rfl)); intro w40 hw; have hg : wr.grownBy w40 (some go3) := (by rw [hw]; exact HP39.2); have hp_ : Kd.R (Kd.int .i64) 2 w40 w.heap.size (fun _ => True) (.slice (some ⟨go3, 0, none⟩) x1_2.length co3) y114 := (by rw [hw, Ny114.out]; exact HP39.1); clear HP39; have n0_ := Aside0.mk (hp_); have n1_ := Aside0.mk ((by rw [hw]; exact below_set (HB.out) GB3.out : Below w.heap.size w w40)); clear HO_1; clear HB; have HO_1 := n0_; have HB := n1_; clear n0_ n1_; clear hg hw hp_)); try go_wp2_with (first | ((with_reducible refine gate_store (t := 2) (p := 71) rfl ?_); (try (rw [drewN_self wr]; generalize hq_ : World.drewN wr _ = wr; have n0_ := Aside0.mk (Kd.R_at hq_ HO_1.out); have n1_ := Aside0.mk (below_at hq_ HB.out); clear hq_ HO_1 HB; have HO_1 := n0_; have HB := n1_; clear n0_ n1_; (try (have HP39 := Kd.R_putg HO_1.out ((ji35) : Int) (wrap64 (Int.tdiv (wrap64 ((wrap64 ((rd x1_2 x3_2) + (rd x1_2 (ji21)))) * 8388608)) (rd x1_2 (ji24)))))))); refine store_event (t := 2) (p := 71) (v := ?vo_w40) (w1 := (wr.setCell ⟨go3, ((ji35) : Int).toNat, none⟩ (.int .i64 (wrap64 (Int.tdiv (wrap64 ((wrap64 ((rd x1_2 x3_2) + (rd x1_2 (ji21)))) * 8388608)) (rd x1_2 (ji24))))))) ?hg ?ho ?hn ?hr ?_; (case ho => rfl); (case hg => rfl); (case hn => rfl); (case hr => first | (go_simp; done) | (go_simp; rfl)); intro w40 hw; have hg : wr.grownBy w40 (some go3) := (by rw [hw]; exact HP39.2); have hp_ : Kd.R (Kd.int .i64) 2 w40 w.heap.size (fun _ => True) (.slice (some ⟨go3, 0, none⟩) x1_2.length co3) y114 := (by rw [hw, Ny114.out]; exact HP39.1); clear HP39; have n0_ := Aside0.mk (hp_); have n1_ := Aside0.mk ((by rw [hw]; exact below_set (HB.out) GB3.out : Below w.heap.size w w40)); clear HO_1; clear HB; have HO_1 := n0_; have HB := n1_; clear n0_ n1_; clear hg hw hp_)))
                                              (try simp only [← hl1_2])
                                              go_roundg k2
                                              case measure => have := HK1.out; have := HK2.out; omega
                                              case rel => exact ⟨(y114), (ji21), (by first | rfl | (simp; done) | (simp only [← hji21] <;> (first | rfl | simp)) | (simp [*]; done)), H', ⟨by have := HK1.out; have := HK2.out; omega⟩, ⟨by (try simp only [hl1_1]); (try simp only [hl1_2]); (with_reducible repeat (first | apply Kd.R_alloc | apply Kd.R_drewN | apply Kd.R_drew)); first | exact HO_1.out | (rw [Ny114.out]; exact (Kd.R_putg (Kd.R_drewN HO_1.out _) _ _).1)⟩, ⟨by first | exact below_set (pw_below_drewN HB.out _) GB3.out | repeat (first | (with_reducible first | exact HB.out | apply below_alloc | apply pw_below_drewN | apply below_drew1) | exact HB.out)⟩⟩
                                            · rw [if_neg c37] at H
                                              exact absurd H (by simp)
                                          · rw [if_neg c36] at H
                                            exact absurd H (by simp)
                                    · rw [if_neg c26] at H
                                      exact absurd H (by simp)
                                  · rw [if_neg c25] at H
                                    exact absurd H (by simp)
                                · rw [if_neg c23] at H
                                  exact absurd H (by simp)
                              · rw [if_neg c22] at H
                                exact absurd H (by simp)
                            · rw [if_neg c20] at H
                              exact absurd H (by simp)
                          · rw [if_neg c19] at H
                            exact absurd H (by simp)
                        · rw [if_neg c18] at H
                          have c18b0 : decide ((wrap64 (x3_2 + x2_1)) ≤ 1024) = false := decide_eq_false c18
                          clear c18
                          have H' := Aside0.mk H
                          clear H
                          go_wp2
                          repeat (go_quiet (fail); try go_wp2)
                          (try simp only [← hl1_1, ← hl1_2])
                          go_roundg k2
                          case measure => have := HK1.out; have := HK2.out; omega
                          case rel => exact ⟨(x1_2), (wrap64 (Int.tdiv x2_1 2)), (by first | rfl | (simp; done) | (simp [*]; done)), H', ⟨by have := HK1.out; have := HK2.out; omega⟩, ⟨by (try simp only [hl1_1]); (try simp only [hl1_2]); (with_reducible repeat (first | apply Kd.R_alloc | apply Kd.R_drewN | apply Kd.R_drew)); exact HO_1.out⟩, ⟨by repeat (first | (with_reducible first | exact HB.out | apply below_alloc | apply pw_below_drewN | apply below_drew1) | exact HB.out)⟩⟩
                  · rw [if_neg c14] at H
                    exact absurd H (by simp)
                · rw [if_neg c13] at H
                  exact absurd H (by simp)
              · rw [if_neg c10] at H
                exact absurd H (by simp)
            · rw [if_neg c9] at H
              exact absurd H (by simp)
          · rw [if_neg c8] at H
            have c8b0 : decide (1 < x2_1) = false := decide_eq_false c8
            clear c8
            obtain rfl := Option.some.inj H
            go_wp2
            repeat (go_quiet (fail); try go_wp2)
            go_ret
            exact ⟨_, by first | rfl | (simp [errW_none, errW_some] <;> rfl) | (simp [*, errW_none, errW_some] <;> rfl), by (with_reducible repeat (first | apply Kd.R_alloc | apply Kd.R_drewN | apply Kd.R_drew)); exact HO_1.out, by repeat (first | (with_reducible first | exact HB.out | apply below_alloc | apply pw_below_drewN | apply below_drew1) | exact HB.out)⟩
    · rw [if_neg c2] at H
      exact absurd H (by simp)
  · rw [if_neg c1] at H
    exact absurd H (by simp)

end Go.Proofs.Ytngldpeapcbbpaa.PQuarter
