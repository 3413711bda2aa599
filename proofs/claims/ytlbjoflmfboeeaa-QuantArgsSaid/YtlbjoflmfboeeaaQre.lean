/- Walks of the given program's functions and the law's row, written by a program of this session (the kit's print, with changes of this session's own): each Go function does what the Lean function of its name says. No condition but those that each theorem states. -/
import Derived.Test.YtlbjoflmfboeeaaProg
import Derived.Below
import Derived.Deep.Draws
import Derived.Deep.AppendLies
import Derived.Maps.AppendAt
import Derived.OwnWalk
import Derived.Laws.BytesArg
import Derived.Laws.MakeOwn
import Derived.Laws.OwnMore
import Derived.Deep.OwnRows
import Derived.Tactics
import Derived.Lib.ConvBytes
import Derived.Laws.Slices
import Derived.WalkKit
import Derived.KernelRfl
import Derived.RowKit3
import Derived.Deep.LoopGhost
import Derived.Deep.QuietTactic
import Derived.BigQuiet
import Derived.WideLaws
import Derived.Deep.DeepCutAuto
import Derived.Deep.CutBlock
import Derived.Deep.RegionHeld3
import Derived.Laws.Rows
import Derived.Lib.AppendStr
import Derived.ArgAppend
import Derived.Laws.IdiomCopy
import Derived.OrdersHeld
import Derived.Laws.BitsLemmas
import Derived.RowKit
import Derived.Test.YtlbjoflmfboeeaaBno
import Derived.Test.YtlbjoflmfboeeaaWWords
import Derived.Test.YtlbjoflmfboeeaaWLast
import Derived.Test.YtlbjoflmfboeeaaWTab
import Derived.Test.YtlbjoflmfboeeaaWFour
import Derived.Test.YtlbjoflmfboeeaaWQPut
import Derived.Test.YtlbjoflmfboeeaaWApart
import Derived.Test.YtlbjoflmfboeeaaWArr
import Derived.Test.YtlbjoflmfboeeaaWZeros
import Derived.Test.YtlbjoflmfboeeaaWFoot
import Derived.Test.YtlbjoflmfboeeaaWKept
import Derived.Test.YtlbjoflmfboeeaaWShare
import Derived.Test.YtlbjoflmfboeeaaWN
import Derived.Test.YtlbjoflmfboeeaaWFootNe
import Derived.Test.YtlbjoflmfboeeaaWAt
import Derived.Test.YtlbjoflmfboeeaaWEqStruct
import Derived.Test.YtlbjoflmfboeeaaWRepsOne
import Derived.Test.YtlbjoflmfboeeaaWInv
import Derived.Test.YtlbjoflmfboeeaaWInvWords
import Derived.Test.YtlbjoflmfboeeaaWGuard
import Derived.Test.YtlbjoflmfboeeaaWNEv
import Derived.Test.YtlbjoflmfboeeaaWMore
namespace Go.Proofs.Ytlbjoflmfboeeaa.Qre
open Go.RowKit Go.Proofs.YtlbjoflmfboeeaaW.PrintWords Go.Proofs.YtlbjoflmfboeeaaW.PrintLast Go.Proofs.YtlbjoflmfboeeaaW.PrintMore
attribute [local go_sem] max2_int min2_int max_two min_two max_three min_three max_four min_four   -- for this text's walks alone
set_option linter.unusedVariables false
set_option linter.unusedSimpArgs false



def errW : Option Int → Value
  | none => .nilIface
  | some c => .iface 0 (.int .i64 c)
theorem errW_none : errW none = .nilIface := rfl
theorem errW_some (c : Int) : errW (some c) = .iface 0 (.int .i64 c) := rfl

theorem info2 : (Try.prog.info? 2).map (fun i => (i.zero, i.size, i.bytes)) = some (some (.int .i64 0), 1, 8) := by kernel_rfl
theorem info3 : (Try.prog.info? 3).map (fun i => (i.zero, i.size, i.bytes)) = some (some (.int .i64 0), 1, 8) := by kernel_rfl
theorem info21 : (Try.prog.info? 21).map (fun i => (i.zero, i.size, i.bytes)) = some (some (.int .i32 0), 1, 4) := by kernel_rfl
-- the values' own types

open Go.RowKit Go.Proofs.YtlbjoflmfboeeaaW.PrintWords Go.Proofs.YtlbjoflmfboeeaaW.PrintLast Go.Proofs.YtlbjoflmfboeeaaW.PrintMore
attribute [local go_sem] max2_int min2_int max_two min_two max_three min_three max_four min_four   -- for this text's walks alone
set_option linter.unusedVariables false
set_option linter.unusedSimpArgs false

/-! ### sidebandref04_Edges: function 52 -/
mutual
def sidebandref04_Edges.l0 : Nat → List Int → Int → Int → Option (List Int)
  | 0, _, _, _ => none
  | k + 1, x1, x2, x3 => if x3 < 21 then (if x3 ≥ 8 then (sidebandref04_Edges.j1 k x1 x2 x3 8) else (sidebandref04_Edges.j1 k x1 x2 x3 4)) else (some x1)
def sidebandref04_Edges.j1 : Nat → List Int → Int → Int → Int → Option (List Int)
  | 0, _, _, _, _ => none
  | k + 1, x1, x2, x3, x4 => if x3 ≥ 12 then (sidebandref04_Edges.j2 k x1 x2 x3 16) else (sidebandref04_Edges.j2 k x1 x2 x3 x4)
def sidebandref04_Edges.j2 : Nat → List Int → Int → Int → Int → Option (List Int)
  | 0, _, _, _, _ => none
  | k + 1, x1, x2, x3, x4 => if x3 ≥ 16 then (sidebandref04_Edges.j3 k x1 x2 x3 32) else (sidebandref04_Edges.j3 k x1 x2 x3 x4)
def sidebandref04_Edges.j3 : Nat → List Int → Int → Int → Int → Option (List Int)
  | 0, _, _, _, _ => none
  | k + 1, x1, x2, x3, x4 => if x3 = 18 then (sidebandref04_Edges.j4 k x1 x2 x3 64) else (sidebandref04_Edges.j4 k x1 x2 x3 x4)
def sidebandref04_Edges.j4 : Nat → List Int → Int → Int → Int → Option (List Int)
  | 0, _, _, _, _ => none
  | k + 1, x1, x2, x3, x4 => if x3 = 19 then (if x3 = 20 then (if x1.length < 17592186044416 then (sidebandref04_Edges.l0 k (x1 ++ [wrap64 (x2 + 160)]) (wrap64 (x2 + 160)) (wrap64 (x3 + 1))) else (none)) else (if x1.length < 17592186044416 then (sidebandref04_Edges.l0 k (x1 ++ [wrap64 (x2 + 96)]) (wrap64 (x2 + 96)) (wrap64 (x3 + 1))) else (none))) else (if x3 = 20 then (if x1.length < 17592186044416 then (sidebandref04_Edges.l0 k (x1 ++ [wrap64 (x2 + 160)]) (wrap64 (x2 + 160)) (wrap64 (x3 + 1))) else (none)) else (if x1.length < 17592186044416 then (sidebandref04_Edges.l0 k (x1 ++ [wrap64 (x2 + x4)]) (wrap64 (x2 + x4)) (wrap64 (x3 + 1))) else (none)))
end
def sidebandref04_Edges.f (k : Nat)  : Option (List Int) := sidebandref04_Edges.l0 k (([0] : List Int)) 0 0
theorem sidebandref04_Edges.mono_l : ∀ k, (∀ y0 y1 y2, LeO (sidebandref04_Edges.l0 k y0 y1 y2) (sidebandref04_Edges.l0 (k + 1) y0 y1 y2)) ∧ (∀ y0 y1 y2 y3, LeO (sidebandref04_Edges.j1 k y0 y1 y2 y3) (sidebandref04_Edges.j1 (k + 1) y0 y1 y2 y3)) ∧ (∀ y0 y1 y2 y3, LeO (sidebandref04_Edges.j2 k y0 y1 y2 y3) (sidebandref04_Edges.j2 (k + 1) y0 y1 y2 y3)) ∧ (∀ y0 y1 y2 y3, LeO (sidebandref04_Edges.j3 k y0 y1 y2 y3) (sidebandref04_Edges.j3 (k + 1) y0 y1 y2 y3)) ∧ (∀ y0 y1 y2 y3, LeO (sidebandref04_Edges.j4 k y0 y1 y2 y3) (sidebandref04_Edges.j4 (k + 1) y0 y1 y2 y3))
  | 0 => ⟨fun _ _ _ r h => by simp [sidebandref04_Edges.l0] at h, fun _ _ _ _ r h => by simp [sidebandref04_Edges.j1] at h, fun _ _ _ _ r h => by simp [sidebandref04_Edges.j2] at h, fun _ _ _ _ r h => by simp [sidebandref04_Edges.j3] at h, fun _ _ _ _ r h => by simp [sidebandref04_Edges.j4] at h⟩
  | k + 1 => by
    obtain ⟨ih0, ih1, ih2, ih3, ih4⟩ := sidebandref04_Edges.mono_l k
    refine ⟨?_, ?_, ?_, ?_, ?_⟩
    · intro y0 y1 y2
      unfold sidebandref04_Edges.l0
      repeat' first
      | (with_reducible exact ih0 _ _ _)
      | (with_reducible exact ih1 _ _ _ _)
      | (with_reducible exact ih2 _ _ _ _)
      | (with_reducible exact ih3 _ _ _ _)
      | (with_reducible exact ih4 _ _ _ _)
      | (with_reducible exact LeO.refl _)
      | (with_reducible exact LeO.none _)
      | (with_reducible refine LeO.ite ?_ ?_)
      | (with_reducible refine LeO.bind ?_ (fun _ => ?_))
      | exact ih0 _ _ _
      | exact ih1 _ _ _ _
      | exact ih2 _ _ _ _
      | exact ih3 _ _ _ _
      | exact ih4 _ _ _ _
      | exact LeO.none _
      | refine LeO.ite ?_ ?_
      | refine LeO.bind ?_ (fun _ => ?_)
    · intro y0 y1 y2 y3
      unfold sidebandref04_Edges.j1
      repeat' first
      | (with_reducible exact ih0 _ _ _)
      | (with_reducible exact ih1 _ _ _ _)
      | (with_reducible exact ih2 _ _ _ _)
      | (with_reducible exact ih3 _ _ _ _)
      | (with_reducible exact ih4 _ _ _ _)
      | (with_reducible exact LeO.refl _)
      | (with_reducible exact LeO.none _)
      | (with_reducible refine LeO.ite ?_ ?_)
      | (with_reducible refine LeO.bind ?_ (fun _ => ?_))
      | exact ih0 _ _ _
      | exact ih1 _ _ _ _
      | exact ih2 _ _ _ _
      | exact ih3 _ _ _ _
      | exact ih4 _ _ _ _
      | exact LeO.none _
      | refine LeO.ite ?_ ?_
      | refine LeO.bind ?_ (fun _ => ?_)
    · intro y0 y1 y2 y3
      unfold sidebandref04_Edges.j2
      repeat' first
      | (with_reducible exact ih0 _ _ _)
      | (with_reducible exact ih1 _ _ _ _)
      | (with_reducible exact ih2 _ _ _ _)
      | (with_reducible exact ih3 _ _ _ _)
      | (with_reducible exact ih4 _ _ _ _)
      | (with_reducible exact LeO.refl _)
      | (with_reducible exact LeO.none _)
      | (with_reducible refine LeO.ite ?_ ?_)
      | (with_reducible refine LeO.bind ?_ (fun _ => ?_))
      | exact ih0 _ _ _
      | exact ih1 _ _ _ _
      | exact ih2 _ _ _ _
      | exact ih3 _ _ _ _
      | exact ih4 _ _ _ _
      | exact LeO.none _
      | refine LeO.ite ?_ ?_
      | refine LeO.bind ?_ (fun _ => ?_)
    · intro y0 y1 y2 y3
      unfold sidebandref04_Edges.j3
      repeat' first
      | (with_reducible exact ih0 _ _ _)
      | (with_reducible exact ih1 _ _ _ _)
      | (with_reducible exact ih2 _ _ _ _)
      | (with_reducible exact ih3 _ _ _ _)
      | (with_reducible exact ih4 _ _ _ _)
      | (with_reducible exact LeO.refl _)
      | (with_reducible exact LeO.none _)
      | (with_reducible refine LeO.ite ?_ ?_)
      | (with_reducible refine LeO.bind ?_ (fun _ => ?_))
      | exact ih0 _ _ _
      | exact ih1 _ _ _ _
      | exact ih2 _ _ _ _
      | exact ih3 _ _ _ _
      | exact ih4 _ _ _ _
      | exact LeO.none _
      | refine LeO.ite ?_ ?_
      | refine LeO.bind ?_ (fun _ => ?_)
    · intro y0 y1 y2 y3
      unfold sidebandref04_Edges.j4
      repeat' first
      | (with_reducible exact ih0 _ _ _)
      | (with_reducible exact ih1 _ _ _ _)
      | (with_reducible exact ih2 _ _ _ _)
      | (with_reducible exact ih3 _ _ _ _)
      | (with_reducible exact ih4 _ _ _ _)
      | (with_reducible exact LeO.refl _)
      | (with_reducible exact LeO.none _)
      | (with_reducible refine LeO.ite ?_ ?_)
      | (with_reducible refine LeO.bind ?_ (fun _ => ?_))
      | exact ih0 _ _ _
      | exact ih1 _ _ _ _
      | exact ih2 _ _ _ _
      | exact ih3 _ _ _ _
      | exact ih4 _ _ _ _
      | exact LeO.none _
      | refine LeO.ite ?_ ?_
      | refine LeO.bind ?_ (fun _ => ?_)
theorem sidebandref04_Edges.mono : ∀ k, LeO (sidebandref04_Edges.f k ) (sidebandref04_Edges.f (k + 1) ) := by
  intro  k
  obtain ⟨ih0, ih1, ih2, ih3, ih4⟩ := sidebandref04_Edges.mono_l k
  unfold sidebandref04_Edges.f
  repeat' first
      | (with_reducible exact ih0 _ _ _)
      | (with_reducible exact ih1 _ _ _ _)
      | (with_reducible exact ih2 _ _ _ _)
      | (with_reducible exact ih3 _ _ _ _)
      | (with_reducible exact ih4 _ _ _ _)
      | (with_reducible exact LeO.refl _)
      | (with_reducible exact LeO.none _)
      | (with_reducible refine LeO.ite ?_ ?_)
      | (with_reducible refine LeO.bind ?_ (fun _ => ?_))
      | exact ih0 _ _ _
      | exact ih1 _ _ _ _
      | exact ih2 _ _ _ _
      | exact ih3 _ _ _ _
      | exact ih4 _ _ _ _
      | exact LeO.none _
      | refine LeO.ite ?_ ?_
      | refine LeO.bind ?_ (fun _ => ?_)
set_option maxHeartbeats 8000000 in
set_option maxRecDepth 100000 in
theorem sidebandref04_Edges.calls (k : Nat)  (r : List Int) (w : World) (h : sidebandref04_Edges.f k  = some r) :
    Calls Try.prog 52 #[] w fun e w' => ∃ v0_ : Value, e = .returned (v0_) ∧ Kd.R (Kd.int .i64) 3 w' w.heap.size (fun _ => True) v0_ r ∧ Below w.heap.size w w' := by
  have HB := Aside0.mk (Below.refl w.heap.size w)
  have H : (sidebandref04_Edges.l0 k (([0] : List Int)) 0 0) = some r := h
  clear h
  obtain ⟨y158, hy158⟩ : ∃ y_ : List Int, y_ = (([0] : List Int)) := ⟨_, rfl⟩
  replace H : (sidebandref04_Edges.l0 k y158 0 0) = some r := by first | (rw [hy158]; with_reducible exact H) | (have H2_ := (Option.bind_some _ _).symm.trans H; rw [hy158]; with_reducible exact H2_) | (have H2_ := (Option.bind_some _ _).symm.trans H; with_reducible exact H2_) | with_reducible exact H | (rw [hy158]; exact H) | exact H
  have Ny158 := Aside0.mk hy158
  clear hy158
  have H' := Aside0.mk H
  clear H
  go_enter Try.func52, Try.ntmps52
  go_wp2_with (first | ((with_reducible refine gate_dst (N := 5) rfl ?_); refine Kd.R_lit (Kd.int .i64) _ 3 ?hg (N := 5) ?hd (xs := ([0] : List Int)) (inner := [.int .i64 0]) (ok := fun _ => True) (okp := fun _ => True) ?hr ?hp (fun _ hk => hk) trivial (Below.refl _ _) (Nat.le_refl _) (by simp) ?_; (case hd => rfl); (case hg => rfl); (case hr => first | (go_simp; done) | (go_simp; rfl)); (case hp => exact (Reps.one (show Kd.M (Kd.int .i64) _ _ _ 0 [.int .i64 0] from rfl) (Reps.none _ _))); intro v159 w1 ho2 hb hg_ hnew_; clear hg_ hnew_; (first | rw [← Ny158.out] at ho2 | (simp only [Int.reduceToNat] at ho2; rw [← Ny158.out] at ho2)); have n0_ := Aside0.mk (Kd.R_lower ho2 (below_size (by repeat (first | (with_reducible first | exact HB.out | apply below_alloc | apply pw_below_drewN | apply below_drew1) | exact HB.out)))); have n1_ := Aside0.mk (below_step (by repeat (first | (with_reducible first | exact HB.out | apply below_alloc | apply pw_below_drewN | apply below_drew1) | exact HB.out)) hb); clear HB; have HO160 := n0_; have HB := n1_; clear n0_ n1_; clear hb ho2))
  go_loopg [1, 2, 3] k (fun kq v1 v2 v3 w' => ∃ (x1_1 : List Int) (x2_1 : Int) (x3_1 : Int), v2 = .int .i64 x2_1 ∧ v3 = .int .i64 x3_1 ∧ Aside0 (sidebandref04_Edges.l0 kq x1_1 x2_1 x3_1 = some r) ∧ Aside0 (kq ≤ k) ∧ Aside0 (Kd.R (Kd.int .i64) 3 w' w.heap.size (fun _ => True) v1 x1_1) ∧ Aside0 (Below w.heap.size w w'))
  case atStart => exact ⟨(y158), (0), (0), (by first | rfl | (simp; done) | (simp [*]; done)), (by first | rfl | (simp; done) | (simp [*]; done)), H', ⟨Nat.le_refl _⟩, ⟨by (with_reducible repeat (first | apply Kd.R_alloc | apply Kd.R_drewN | apply Kd.R_drew)); exact HO160.out⟩, ⟨by repeat (first | (with_reducible first | exact HB.out | apply below_alloc | apply pw_below_drewN | apply below_drew1) | exact HB.out)⟩⟩
  case round =>
    clear H'
    try clear p2
    obtain ⟨x1_1, x2_1, x3_1, rfl, rfl, HA, HK1, HO_1, HB⟩ := hrel
    cases gk with
    | zero => exact absurd HA.out (by simp [sidebandref04_Edges.l0])
    | succ k1 =>
      have H := HA.out
      clear HA
      simp only [sidebandref04_Edges.l0] at H
      by_cases c3 : x3_1 < 21
      · rw [if_pos c3] at H
        have c3b0 : decide (x3_1 < 21) = true := decide_eq_true c3
        clear c3
        have HC4 := Aside0.mk H
        clear H
        go_upto_if 11 with (fail)
        go_cut [4] (fun v4 wc => ∃ (kq : Nat) (x4_3 : Int), v4 = .int .i64 x4_3 ∧ Aside0 (sidebandref04_Edges.j1 kq x1_1 x2_1 x3_1 x4_3 = some r) ∧ Aside0 (kq ≤ k1) ∧ Aside0 (Kd.R (Kd.int .i64) 3 wc w.heap.size (fun _ => True) u1 x1_1) ∧ Aside0 (Below w.heap.size w wc))
        case first =>
          have H := HC4.out
          clear HC4
          by_cases c5 : x3_1 ≥ 8
          · rw [if_pos c5] at H
            have c5b0 : decide (8 ≤ x3_1) = true := decide_eq_true c5
            clear c5
            (first | rw [c5b0] | (simp only [i64_w, i32_w]; rw [c5b0]) | skip)
            have H' := Aside0.mk H
            clear H
            go_wp2
            go_meet
            case rel => exact ⟨_, (8), (by first | rfl | (simp; done) | (simp [*]; done)), H', ⟨by have := HK1.out; first | omega | exact Nat.le_refl _⟩, ⟨by (with_reducible repeat (first | apply Kd.R_alloc | apply Kd.R_drewN | apply Kd.R_drew)); exact HO_1.out⟩, ⟨by repeat (first | (with_reducible first | exact HB.out | apply below_alloc | apply pw_below_drewN | apply below_drew1) | exact HB.out)⟩⟩
          · rw [if_neg c5] at H
            have c5b0 : decide (8 ≤ x3_1) = false := decide_eq_false c5
            clear c5
            (first | rw [c5b0] | (simp only [i64_w, i32_w]; rw [c5b0]) | skip)
            have H' := Aside0.mk H
            clear H
            go_wp2
            go_meet
            case rel => exact ⟨_, (4), (by first | rfl | (simp; done) | (simp [*]; done)), H', ⟨by have := HK1.out; first | omega | exact Nat.le_refl _⟩, ⟨by (with_reducible repeat (first | apply Kd.R_alloc | apply Kd.R_drewN | apply Kd.R_drew)); exact HO_1.out⟩, ⟨by repeat (first | (with_reducible first | exact HB.out | apply below_alloc | apply pw_below_drewN | apply below_drew1) | exact HB.out)⟩⟩
        case rest =>
          clear HC4
          try clear p2
          try clear c3
          try clear c3b0
          try clear c5
          try clear c5b0
          try clear p2
          obtain ⟨kq, x4_3, rfl, HA, HJ3, HO_1, HB⟩ := hcut
          cases kq with
          | zero => exact absurd HA.out (by simp [sidebandref04_Edges.j1])
          | succ kj3 =>
            have H := HA.out
            clear HA
            simp only [sidebandref04_Edges.j1] at H
            have HC6 := Aside0.mk H
            clear H
            go_upto_if 13 with (fail)
            go_cut [4] (fun v4 wc => ∃ (kq : Nat) (x4_5 : Int), v4 = .int .i64 x4_5 ∧ Aside0 (sidebandref04_Edges.j2 kq x1_1 x2_1 x3_1 x4_5 = some r) ∧ Aside0 (kq ≤ kj3) ∧ Aside0 (Kd.R (Kd.int .i64) 3 wc w.heap.size (fun _ => True) u1 x1_1) ∧ Aside0 (Below w.heap.size w wc))
            case first =>
              have H := HC6.out
              clear HC6
              by_cases c7 : x3_1 ≥ 12
              · rw [if_pos c7] at H
                have c7b0 : decide (12 ≤ x3_1) = true := decide_eq_true c7
                clear c7
                (first | rw [c7b0] | (simp only [i64_w, i32_w]; rw [c7b0]) | skip)
                have H' := Aside0.mk H
                clear H
                go_wp2
                go_meet
                case rel => exact ⟨_, (16), (by first | rfl | (simp; done) | (simp [*]; done)), H', ⟨by have := HK1.out; have := HJ3.out; first | omega | exact Nat.le_refl _⟩, ⟨by (with_reducible repeat (first | apply Kd.R_alloc | apply Kd.R_drewN | apply Kd.R_drew)); exact HO_1.out⟩, ⟨by repeat (first | (with_reducible first | exact HB.out | apply below_alloc | apply pw_below_drewN | apply below_drew1) | exact HB.out)⟩⟩
              · rw [if_neg c7] at H
                have c7b0 : decide (12 ≤ x3_1) = false := decide_eq_false c7
                clear c7
                (first | rw [c7b0] | (simp only [i64_w, i32_w]; rw [c7b0]) | skip)
                have H' := Aside0.mk H
                clear H
                go_wp2
                go_meet
                case rel => exact ⟨_, (x4_3), (by first | rfl | (simp; done) | (simp [*]; done)), H', ⟨by have := HK1.out; have := HJ3.out; first | omega | exact Nat.le_refl _⟩, ⟨by (with_reducible repeat (first | apply Kd.R_alloc | apply Kd.R_drewN | apply Kd.R_drew)); exact HO_1.out⟩, ⟨by repeat (first | (with_reducible first | exact HB.out | apply below_alloc | apply pw_below_drewN | apply below_drew1) | exact HB.out)⟩⟩
            case rest =>
              clear HC6
              try clear p2
              try clear c3
              try clear c3b0
              try clear c5
              try clear c5b0
              try clear c7
              try clear c7b0
              try clear p2
              obtain ⟨kq, x4_5, rfl, HA, HJ5, HO_1, HB⟩ := hcut
              cases kq with
              | zero => exact absurd HA.out (by simp [sidebandref04_Edges.j2])
              | succ kj5 =>
                have H := HA.out
                clear HA
                simp only [sidebandref04_Edges.j2] at H
                have HC8 := Aside0.mk H
                clear H
                go_upto_if 15 with (fail)
                go_cut [4] (fun v4 wc => ∃ (kq : Nat) (x4_7 : Int), v4 = .int .i64 x4_7 ∧ Aside0 (sidebandref04_Edges.j3 kq x1_1 x2_1 x3_1 x4_7 = some r) ∧ Aside0 (kq ≤ kj5) ∧ Aside0 (Kd.R (Kd.int .i64) 3 wc w.heap.size (fun _ => True) u1 x1_1) ∧ Aside0 (Below w.heap.size w wc))
                case first =>
                  have H := HC8.out
                  clear HC8
                  by_cases c9 : x3_1 ≥ 16
                  · rw [if_pos c9] at H
                    have c9b0 : decide (16 ≤ x3_1) = true := decide_eq_true c9
                    clear c9
                    (first | rw [c9b0] | (simp only [i64_w, i32_w]; rw [c9b0]) | skip)
                    have H' := Aside0.mk H
                    clear H
                    go_wp2
                    go_meet
                    case rel => exact ⟨_, (32), (by first | rfl | (simp; done) | (simp [*]; done)), H', ⟨by have := HK1.out; have := HJ3.out; have := HJ5.out; first | omega | exact Nat.le_refl _⟩, ⟨by (with_reducible repeat (first | apply Kd.R_alloc | apply Kd.R_drewN | apply Kd.R_drew)); exact HO_1.out⟩, ⟨by repeat (first | (with_reducible first | exact HB.out | apply below_alloc | apply pw_below_drewN | apply below_drew1) | exact HB.out)⟩⟩
                  · rw [if_neg c9] at H
                    have c9b0 : decide (16 ≤ x3_1) = false := decide_eq_false c9
                    clear c9
                    (first | rw [c9b0] | (simp only [i64_w, i32_w]; rw [c9b0]) | skip)
                    have H' := Aside0.mk H
                    clear H
                    go_wp2
                    go_meet
                    case rel => exact ⟨_, (x4_5), (by first | rfl | (simp; done) | (simp [*]; done)), H', ⟨by have := HK1.out; have := HJ3.out; have := HJ5.out; first | omega | exact Nat.le_refl _⟩, ⟨by (with_reducible repeat (first | apply Kd.R_alloc | apply Kd.R_drewN | apply Kd.R_drew)); exact HO_1.out⟩, ⟨by repeat (first | (with_reducible first | exact HB.out | apply below_alloc | apply pw_below_drewN | apply below_drew1) | exact HB.out)⟩⟩
                case rest =>
                  clear HC8
                  try clear p2
                  try clear c3
                  try clear c3b0
                  try clear c5
                  try clear c5b0
                  try clear c7
                  try clear c7b0
                  try clear c9
                  try clear c9b0
                  try clear p2
                  obtain ⟨kq, x4_7, rfl, HA, HJ7, HO_1, HB⟩ := hcut
                  cases kq with
                  | zero => exact absurd HA.out (by simp [sidebandref04_Edges.j3])
                  | succ kj7 =>
                    have H := HA.out
                    clear HA
                    simp only [sidebandref04_Edges.j3] at H
                    have HC10 := Aside0.mk H
                    clear H
                    go_upto_if 17 with (fail)
                    go_cut [4] (fun v4 wc => ∃ (kq : Nat) (x4_9 : Int), v4 = .int .i64 x4_9 ∧ Aside0 (sidebandref04_Edges.j4 kq x1_1 x2_1 x3_1 x4_9 = some r) ∧ Aside0 (kq ≤ kj7) ∧ Aside0 (Kd.R (Kd.int .i64) 3 wc w.heap.size (fun _ => True) u1 x1_1) ∧ Aside0 (Below w.heap.size w wc))
                    case first =>
                      have H := HC10.out
                      clear HC10
                      by_cases c11 : x3_1 = 18
                      · rw [if_pos c11] at H
                        have c11b0 : (x3_1 == 18) = true := beq_iff_eq.mpr c11
                        have c11b1 : (x3_1 != 18) = false := bne_eq_false_iff_eq.mpr c11
                        clear c11
                        (first | rw [c11b0] | (simp only [i64_w, i32_w]; rw [c11b0]) | skip)
                        have H' := Aside0.mk H
                        clear H
                        go_wp2
                        go_meet
                        case rel => exact ⟨_, (64), (by first | rfl | (simp; done) | (simp [*]; done)), H', ⟨by have := HK1.out; have := HJ3.out; have := HJ5.out; have := HJ7.out; first | omega | exact Nat.le_refl _⟩, ⟨by (with_reducible repeat (first | apply Kd.R_alloc | apply Kd.R_drewN | apply Kd.R_drew)); exact HO_1.out⟩, ⟨by repeat (first | (with_reducible first | exact HB.out | apply below_alloc | apply pw_below_drewN | apply below_drew1) | exact HB.out)⟩⟩
                      · rw [if_neg c11] at H
                        have c11b0 : (x3_1 == 18) = false := beq_eq_false_iff_ne.mpr c11
                        have c11b1 : (x3_1 != 18) = true := bne_iff_ne.mpr c11
                        (first | rw [c11b0] | (simp only [i64_w, i32_w]; rw [c11b0]) | skip)
                        have H' := Aside0.mk H
                        clear H
                        go_wp2
                        go_meet
                        case rel => exact ⟨_, (x4_7), (by first | rfl | (simp; done) | (simp [*]; done)), H', ⟨by have := HK1.out; have := HJ3.out; have := HJ5.out; have := HJ7.out; first | omega | exact Nat.le_refl _⟩, ⟨by (with_reducible repeat (first | apply Kd.R_alloc | apply Kd.R_drewN | apply Kd.R_drew)); exact HO_1.out⟩, ⟨by repeat (first | (with_reducible first | exact HB.out | apply below_alloc | apply pw_below_drewN | apply below_drew1) | exact HB.out)⟩⟩
                    case rest =>
                      clear HC10
                      try clear c1
                      try clear p2
                      try clear c3
                      try clear c3b0
                      try clear c5
                      try clear c5b0
                      try clear c7
                      try clear c7b0
                      try clear c9
                      try clear c9b0
                      try clear c11
                      try clear c11b0
                      try clear c11b1
                      try clear p2
                      obtain ⟨kq, x4_9, rfl, HA, HJ9, HO_1, HB⟩ := hcut
                      cases kq with
                      | zero => exact absurd HA.out (by simp [sidebandref04_Edges.j4])
                      | succ kj9 =>
                        have H := HA.out
                        clear HA
                        simp only [sidebandref04_Edges.j4] at H
                        by_cases c12 : x3_1 = 19
                        · rw [if_pos c12] at H
                          have c12b0 : (x3_1 == 19) = true := beq_iff_eq.mpr c12
                          have c12b1 : (x3_1 != 19) = false := bne_eq_false_iff_eq.mpr c12
                          clear c12
                          by_cases c13 : x3_1 = 20
                          · rw [if_pos c13] at H
                            have c13b0 : (x3_1 == 20) = true := beq_iff_eq.mpr c13
                            have c13b1 : (x3_1 != 20) = false := bne_eq_false_iff_eq.mpr c13
                            clear c13
                            by_cases c14 : x1_1.length < 17592186044416
                            · rw [if_pos c14] at H
                              have LMc14 := Aside0.mk c14
                              clear c14
                              obtain ⟨y161, hy161⟩ : ∃ y_ : List Int, y_ = (x1_1 ++ [wrap64 (x2_1 + 160)]) := ⟨_, rfl⟩
                              replace H : (sidebandref04_Edges.l0 kj9 y161 (wrap64 (x2_1 + 160)) (wrap64 (x3_1 + 1))) = some r := by first | (rw [hy161]; with_reducible exact H) | (have H2_ := (Option.bind_some _ _).symm.trans H; rw [hy161]; with_reducible exact H2_) | (have H2_ := (Option.bind_some _ _).symm.trans H; with_reducible exact H2_) | with_reducible exact H | (rw [hy161]; exact H) | exact H
                              have Ny161 := Aside0.mk hy161
                              clear hy161
                              have H' := Aside0.mk H
                              clear H
                              go_wp2_with (first | ((with_reducible refine gate_builtin (b := .append) (xs := #[.tmp 25, .tmp 27]) rfl ?_); at_builtin; refine Kd.R_append (Kd.int .i64) (w0 := w) w.heap.size rfl (.tmp 25) (.tmp 27) 54 3 (.int .i64 0) 8 rfl Try.underlying54 info3 rfl (by decide) (by omega) u1 x1_1 (wrap64 (x2_1 + 160)) [.int .i64 (wrap64 (x2_1 + 160))] (fun _ => True) (fun _ => False) rfl rfl ?aP (fun _ hk => hk.elim) ?aF ?aO ?aB ?aS ?aL ?_; (case aP => exact rfl); (case aB => exact (by repeat (first | (with_reducible first | exact HB.out | apply below_alloc | apply pw_below_drewN | apply below_drew1) | exact HB.out))); (case aF => exact (fun _ _ => trivial)); (case aO => exact (by (with_reducible repeat (first | apply Kd.R_alloc | apply Kd.R_drewN | apply Kd.R_drew)); exact HO_1.out)); (case aS => exact (below_size (by repeat (first | (with_reducible first | exact HB.out | apply below_alloc | apply pw_below_drewN | apply below_drew1) | exact HB.out)))); (case aL => have := LMc14.out; omega); intro v162 w15 ho hb hg hat; rw [← Ny161.out] at ho; have n0_ := Aside0.mk (hb); have n1_ := Aside0.mk (ho); clear HB; clear HO_1; have HB := n0_; have HO163 := n1_; clear n0_ n1_; clear ho hb hg hat))
                              go_roundg kj9
                              case measure => have := HK1.out; have := HJ3.out; have := HJ5.out; have := HJ7.out; have := HJ9.out; omega
                              case rel => exact ⟨(y161), (wrap64 (x2_1 + 160)), (wrap64 (x3_1 + 1)), (by first | rfl | (simp; done) | (simp [*]; done)), (by first | rfl | (simp; done) | (simp [*]; done)), H', ⟨by have := HK1.out; have := HJ3.out; have := HJ5.out; have := HJ7.out; have := HJ9.out; omega⟩, ⟨by (with_reducible repeat (first | apply Kd.R_alloc | apply Kd.R_drewN | apply Kd.R_drew)); exact HO163.out⟩, ⟨by repeat (first | (with_reducible first | exact HB.out | apply below_alloc | apply pw_below_drewN | apply below_drew1) | exact HB.out)⟩⟩
                            · rw [if_neg c14] at H
                              exact absurd H (by simp)
                          · rw [if_neg c13] at H
                            have c13b0 : (x3_1 == 20) = false := beq_eq_false_iff_ne.mpr c13
                            have c13b1 : (x3_1 != 20) = true := bne_iff_ne.mpr c13
                            by_cases c16 : x1_1.length < 17592186044416
                            · rw [if_pos c16] at H
                              have LMc16 := Aside0.mk c16
                              clear c16
                              obtain ⟨y164, hy164⟩ : ∃ y_ : List Int, y_ = (x1_1 ++ [wrap64 (x2_1 + 96)]) := ⟨_, rfl⟩
                              replace H : (sidebandref04_Edges.l0 kj9 y164 (wrap64 (x2_1 + 96)) (wrap64 (x3_1 + 1))) = some r := by first | (rw [hy164]; with_reducible exact H) | (have H2_ := (Option.bind_some _ _).symm.trans H; rw [hy164]; with_reducible exact H2_) | (have H2_ := (Option.bind_some _ _).symm.trans H; with_reducible exact H2_) | with_reducible exact H | (rw [hy164]; exact H) | exact H
                              have Ny164 := Aside0.mk hy164
                              clear hy164
                              have H' := Aside0.mk H
                              clear H
                              go_wp2_with (first | ((with_reducible refine gate_builtin (b := .append) (xs := #[.tmp 25, .tmp 27]) rfl ?_); at_builtin; refine Kd.R_append (Kd.int .i64) (w0 := w) w.heap.size rfl (.tmp 25) (.tmp 27) 54 3 (.int .i64 0) 8 rfl Try.underlying54 info3 rfl (by decide) (by omega) u1 x1_1 (wrap64 (x2_1 + 96)) [.int .i64 (wrap64 (x2_1 + 96))] (fun _ => True) (fun _ => False) rfl rfl ?aP (fun _ hk => hk.elim) ?aF ?aO ?aB ?aS ?aL ?_; (case aP => exact rfl); (case aB => exact (by repeat (first | (with_reducible first | exact HB.out | apply below_alloc | apply pw_below_drewN | apply below_drew1) | exact HB.out))); (case aF => exact (fun _ _ => trivial)); (case aO => exact (by (with_reducible repeat (first | apply Kd.R_alloc | apply Kd.R_drewN | apply Kd.R_drew)); exact HO_1.out)); (case aS => exact (below_size (by repeat (first | (with_reducible first | exact HB.out | apply below_alloc | apply pw_below_drewN | apply below_drew1) | exact HB.out)))); (case aL => have := LMc16.out; omega); intro v165 w17 ho hb hg hat; rw [← Ny164.out] at ho; have n0_ := Aside0.mk (hb); have n1_ := Aside0.mk (ho); clear HB; clear HO_1; have HB := n0_; have HO166 := n1_; clear n0_ n1_; clear ho hb hg hat))
                              go_roundg kj9
                              case measure => have := HK1.out; have := HJ3.out; have := HJ5.out; have := HJ7.out; have := HJ9.out; omega
                              case rel => exact ⟨(y164), (wrap64 (x2_1 + 96)), (wrap64 (x3_1 + 1)), (by first | rfl | (simp; done) | (simp [*]; done)), (by first | rfl | (simp; done) | (simp [*]; done)), H', ⟨by have := HK1.out; have := HJ3.out; have := HJ5.out; have := HJ7.out; have := HJ9.out; omega⟩, ⟨by (with_reducible repeat (first | apply Kd.R_alloc | apply Kd.R_drewN | apply Kd.R_drew)); exact HO166.out⟩, ⟨by repeat (first | (with_reducible first | exact HB.out | apply below_alloc | apply pw_below_drewN | apply below_drew1) | exact HB.out)⟩⟩
                            · rw [if_neg c16] at H
                              exact absurd H (by simp)
                        · rw [if_neg c12] at H
                          have c12b0 : (x3_1 == 19) = false := beq_eq_false_iff_ne.mpr c12
                          have c12b1 : (x3_1 != 19) = true := bne_iff_ne.mpr c12
                          by_cases c18 : x3_1 = 20
                          · rw [if_pos c18] at H
                            have c18b0 : (x3_1 == 20) = true := beq_iff_eq.mpr c18
                            have c18b1 : (x3_1 != 20) = false := bne_eq_false_iff_eq.mpr c18
                            clear c18
                            by_cases c19 : x1_1.length < 17592186044416
                            · rw [if_pos c19] at H
                              have LMc19 := Aside0.mk c19
                              clear c19
                              obtain ⟨y167, hy167⟩ : ∃ y_ : List Int, y_ = (x1_1 ++ [wrap64 (x2_1 + 160)]) := ⟨_, rfl⟩
                              replace H : (sidebandref04_Edges.l0 kj9 y167 (wrap64 (x2_1 + 160)) (wrap64 (x3_1 + 1))) = some r := by first | (rw [hy167]; with_reducible exact H) | (have H2_ := (Option.bind_some _ _).symm.trans H; rw [hy167]; with_reducible exact H2_) | (have H2_ := (Option.bind_some _ _).symm.trans H; with_reducible exact H2_) | with_reducible exact H | (rw [hy167]; exact H) | exact H
                              have Ny167 := Aside0.mk hy167
                              clear hy167
                              have H' := Aside0.mk H
                              clear H
                              go_wp2_with (first | ((with_reducible refine gate_builtin (b := .append) (xs := #[.tmp 25, .tmp 27]) rfl ?_); at_builtin; refine Kd.R_append (Kd.int .i64) (w0 := w) w.heap.size rfl (.tmp 25) (.tmp 27) 54 3 (.int .i64 0) 8 rfl Try.underlying54 info3 rfl (by decide) (by omega) u1 x1_1 (wrap64 (x2_1 + 160)) [.int .i64 (wrap64 (x2_1 + 160))] (fun _ => True) (fun _ => False) rfl rfl ?aP (fun _ hk => hk.elim) ?aF ?aO ?aB ?aS ?aL ?_; (case aP => exact rfl); (case aB => exact (by repeat (first | (with_reducible first | exact HB.out | apply below_alloc | apply pw_below_drewN | apply below_drew1) | exact HB.out))); (case aF => exact (fun _ _ => trivial)); (case aO => exact (by (with_reducible repeat (first | apply Kd.R_alloc | apply Kd.R_drewN | apply Kd.R_drew)); exact HO_1.out)); (case aS => exact (below_size (by repeat (first | (with_reducible first | exact HB.out | apply below_alloc | apply pw_below_drewN | apply below_drew1) | exact HB.out)))); (case aL => have := LMc19.out; omega); intro v168 w20 ho hb hg hat; rw [← Ny167.out] at ho; have n0_ := Aside0.mk (hb); have n1_ := Aside0.mk (ho); clear HB; clear HO_1; have HB := n0_; have HO169 := n1_; clear n0_ n1_; clear ho hb hg hat))
                              go_roundg kj9
                              case measure => have := HK1.out; have := HJ3.out; have := HJ5.out; have := HJ7.out; have := HJ9.out; omega
                              case rel => exact ⟨(y167), (wrap64 (x2_1 + 160)), (wrap64 (x3_1 + 1)), (by first | rfl | (simp; done) | (simp [*]; done)), (by first | rfl | (simp; done) | (simp [*]; done)), H', ⟨by have := HK1.out; have := HJ3.out; have := HJ5.out; have := HJ7.out; have := HJ9.out; omega⟩, ⟨by (with_reducible repeat (first | apply Kd.R_alloc | apply Kd.R_drewN | apply Kd.R_drew)); exact HO169.out⟩, ⟨by repeat (first | (with_reducible first | exact HB.out | apply below_alloc | apply pw_below_drewN | apply below_drew1) | exact HB.out)⟩⟩
                            · rw [if_neg c19] at H
                              exact absurd H (by simp)
                          · rw [if_neg c18] at H
                            have c18b0 : (x3_1 == 20) = false := beq_eq_false_iff_ne.mpr c18
                            have c18b1 : (x3_1 != 20) = true := bne_iff_ne.mpr c18
                            by_cases c21 : x1_1.length < 17592186044416
                            · rw [if_pos c21] at H
                              have LMc21 := Aside0.mk c21
                              clear c21
                              obtain ⟨y170, hy170⟩ : ∃ y_ : List Int, y_ = (x1_1 ++ [wrap64 (x2_1 + x4_9)]) := ⟨_, rfl⟩
                              replace H : (sidebandref04_Edges.l0 kj9 y170 (wrap64 (x2_1 + x4_9)) (wrap64 (x3_1 + 1))) = some r := by first | (rw [hy170]; with_reducible exact H) | (have H2_ := (Option.bind_some _ _).symm.trans H; rw [hy170]; with_reducible exact H2_) | (have H2_ := (Option.bind_some _ _).symm.trans H; with_reducible exact H2_) | with_reducible exact H | (rw [hy170]; exact H) | exact H
                              have Ny170 := Aside0.mk hy170
                              clear hy170
                              have H' := Aside0.mk H
                              clear H
                              go_wp2_with (first | ((with_reducible refine gate_builtin (b := .append) (xs := #[.tmp 25, .tmp 27]) rfl ?_); at_builtin; refine Kd.R_append (Kd.int .i64) (w0 := w) w.heap.size rfl (.tmp 25) (.tmp 27) 54 3 (.int .i64 0) 8 rfl Try.underlying54 info3 rfl (by decide) (by omega) u1 x1_1 (wrap64 (x2_1 + x4_9)) [.int .i64 (wrap64 (x2_1 + x4_9))] (fun _ => True) (fun _ => False) rfl rfl ?aP (fun _ hk => hk.elim) ?aF ?aO ?aB ?aS ?aL ?_; (case aP => exact rfl); (case aB => exact (by repeat (first | (with_reducible first | exact HB.out | apply below_alloc | apply pw_below_drewN | apply below_drew1) | exact HB.out))); (case aF => exact (fun _ _ => trivial)); (case aO => exact (by (with_reducible repeat (first | apply Kd.R_alloc | apply Kd.R_drewN | apply Kd.R_drew)); exact HO_1.out)); (case aS => exact (below_size (by repeat (first | (with_reducible first | exact HB.out | apply below_alloc | apply pw_below_drewN | apply below_drew1) | exact HB.out)))); (case aL => have := LMc21.out; omega); intro v171 w22 ho hb hg hat; rw [← Ny170.out] at ho; have n0_ := Aside0.mk (hb); have n1_ := Aside0.mk (ho); clear HB; clear HO_1; have HB := n0_; have HO172 := n1_; clear n0_ n1_; clear ho hb hg hat))
                              go_roundg kj9
                              case measure => have := HK1.out; have := HJ3.out; have := HJ5.out; have := HJ7.out; have := HJ9.out; omega
                              case rel => exact ⟨(y170), (wrap64 (x2_1 + x4_9)), (wrap64 (x3_1 + 1)), (by first | rfl | (simp; done) | (simp [*]; done)), (by first | rfl | (simp; done) | (simp [*]; done)), H', ⟨by have := HK1.out; have := HJ3.out; have := HJ5.out; have := HJ7.out; have := HJ9.out; omega⟩, ⟨by (with_reducible repeat (first | apply Kd.R_alloc | apply Kd.R_drewN | apply Kd.R_drew)); exact HO172.out⟩, ⟨by repeat (first | (with_reducible first | exact HB.out | apply below_alloc | apply pw_below_drewN | apply below_drew1) | exact HB.out)⟩⟩
                            · rw [if_neg c21] at H
                              exact absurd H (by simp)
      · rw [if_neg c3] at H
        have c3b0 : decide (x3_1 < 21) = false := decide_eq_false c3
        clear c3
        obtain rfl := Option.some.inj H
        go_wp2
        go_ret
        exact ⟨_, by first | rfl | (simp [errW_none, errW_some] <;> rfl) | (simp [*, errW_none, errW_some] <;> rfl), by (with_reducible repeat (first | apply Kd.R_alloc | apply Kd.R_drewN | apply Kd.R_drew)); exact HO_1.out, by repeat (first | (with_reducible first | exact HB.out | apply below_alloc | apply pw_below_drewN | apply below_drew1) | exact HB.out)⟩

end Go.Proofs.Ytlbjoflmfboeeaa.Qre
