/- Walks of the given program's functions and the law's row, written by a program of this session (the kit's print, with changes of this session's own): each Go function does what the Lean function of its name says. No condition but those that each theorem states. -/
import Derived.Test.YtlbjoflmfboeeaaPQuantNearx0
import Derived.Test.YtlbjoflmfboeeaaPQuantNearx2
namespace Go.Proofs.Ytlbjoflmfboeeaa.PQuantNear
open Go.RowKit Go.Proofs.YtlbjoflmfboeeaaW.PrintWords Go.Proofs.YtlbjoflmfboeeaaW.PrintLast Go.Proofs.YtlbjoflmfboeeaaW.PrintMore
attribute [local go_sem] max2_int min2_int max_two min_two max_three min_three max_four min_four   -- for this text's walks alone
set_option linter.unusedVariables false
set_option linter.unusedSimpArgs false

/-! ### sidebandlaw12_lives: function 48 -/
def sidebandlaw12_lives.f (k : Nat)  : Option (Bool) := if 512 ≤ 70368744177664 then ((some (List.replicate 512 0 : List Int)).bind fun y128 => (if 0 < (y128.length : Int) then (if 21 ≤ 35184372088832 then ((some (List.replicate 21 0 : List Int)).bind fun y132 => ((some (List.replicate 21 0 : List Int)).bind fun y135 => (if 0 < (y132.length : Int) then (if 0 < (y135.length : Int) then ((quant_Heard.f k (y128.set (0 : Int).toNat 21) (y132.set (0 : Int).toNat 5) (y135.set (0 : Int).toNat 2) 1).bind fun bt140 => (if bt140.2 = 0 then (if (bt140.1.length : Int) = 512 then (if 0 < (bt140.1.length : Int) then (if (rd bt140.1 0) = 20 then (if 1 < (bt140.1.length : Int) then (some ((rd bt140.1 1) == 0)) else (none)) else (some false)) else (none)) else (some false)) else (some false))) else (none)) else (none)))) else (none)) else (none))) else (none)
theorem sidebandlaw12_lives.mono : ∀ k, LeO (sidebandlaw12_lives.f k ) (sidebandlaw12_lives.f (k + 1) ) := by
  intro  k
  unfold sidebandlaw12_lives.f
  repeat' first
      | (with_reducible exact quant_Heard.mono _ _ _ _ _)
      | (with_reducible exact LeO.refl _)
      | (with_reducible exact LeO.none _)
      | (with_reducible refine LeO.ite ?_ ?_)
      | (with_reducible refine LeO.bind ?_ (fun _ => ?_))
      | exact quant_Heard.mono _ _ _ _ _
      | exact LeO.none _
      | refine LeO.ite ?_ ?_
      | refine LeO.bind ?_ (fun _ => ?_)
set_option maxHeartbeats 8000000 in
set_option maxRecDepth 100000 in
theorem sidebandlaw12_lives.calls (k : Nat)  (r : Bool) (w : World) (h : sidebandlaw12_lives.f k  = some r) :
    Calls Try.prog 48 #[] w fun e w' => e = .returned (.bool r) ∧ Below w.heap.size w w' := by
  have HB := Aside0.mk (Below.refl w.heap.size w)
  have H : (if 512 ≤ 70368744177664 then ((some (List.replicate 512 0 : List Int)).bind fun y128 => (if 0 < (y128.length : Int) then (if 21 ≤ 35184372088832 then ((some (List.replicate 21 0 : List Int)).bind fun y132 => ((some (List.replicate 21 0 : List Int)).bind fun y135 => (if 0 < (y132.length : Int) then (if 0 < (y135.length : Int) then ((quant_Heard.f k (y128.set (0 : Int).toNat 21) (y132.set (0 : Int).toNat 5) (y135.set (0 : Int).toNat 2) 1).bind fun bt140 => (if bt140.2 = 0 then (if (bt140.1.length : Int) = 512 then (if 0 < (bt140.1.length : Int) then (if (rd bt140.1 0) = 20 then (if 1 < (bt140.1.length : Int) then (some ((rd bt140.1 1) == 0)) else (none)) else (some false)) else (none)) else (some false)) else (some false))) else (none)) else (none)))) else (none)) else (none))) else (none)) = some r := h
  clear h
  by_cases c1 : 512 ≤ 70368744177664
  · rw [if_pos c1] at H
    have c1b0 := eq_true c1
    have c1b1 : decide (512 ≤ 70368744177664) = true := decide_eq_true c1
    clear c1
    obtain ⟨y128, hy128⟩ : ∃ y_ : List Int, y_ = (List.replicate 512 0) := ⟨_, rfl⟩
    replace H : (if 0 < (y128.length : Int) then (if 21 ≤ 35184372088832 then ((some (List.replicate 21 0 : List Int)).bind fun y132 => ((some (List.replicate 21 0 : List Int)).bind fun y135 => (if 0 < (y132.length : Int) then (if 0 < (y135.length : Int) then ((quant_Heard.f k (y128.set (0 : Int).toNat 21) (y132.set (0 : Int).toNat 5) (y135.set (0 : Int).toNat 2) 1).bind fun bt140 => (if bt140.2 = 0 then (if (bt140.1.length : Int) = 512 then (if 0 < (bt140.1.length : Int) then (if (rd bt140.1 0) = 20 then (if 1 < (bt140.1.length : Int) then (some ((rd bt140.1 1) == 0)) else (none)) else (some false)) else (none)) else (some false)) else (some false))) else (none)) else (none)))) else (none)) else (none)) = some r := by first | (rw [hy128]; with_reducible exact H) | (have H2_ := (Option.bind_some _ _).symm.trans H; rw [hy128]; with_reducible exact H2_) | (have H2_ := (Option.bind_some _ _).symm.trans H; with_reducible exact H2_) | with_reducible exact H | (rw [hy128]; exact H) | exact H
    have Ny128 := Aside0.mk hy128
    clear hy128
    by_cases c2 : 0 < (y128.length : Int)
    · rw [if_pos c2] at H
      have c2b0 : decide (0 < (y128.length : Int)) = true := decide_eq_true c2
      have c2b1 : decide (0 < y128.length) = true := decide_eq_true (by omega)
      clear c2
      obtain ⟨y131, hy131⟩ : ∃ y_ : List Int, y_ = (y128.set (0 : Int).toNat 21) := ⟨_, rfl⟩
      replace H : (if 21 ≤ 35184372088832 then ((some (List.replicate 21 0 : List Int)).bind fun y132 => ((some (List.replicate 21 0 : List Int)).bind fun y135 => (if 0 < (y132.length : Int) then (if 0 < (y135.length : Int) then ((quant_Heard.f k y131 (y132.set (0 : Int).toNat 5) (y135.set (0 : Int).toNat 2) 1).bind fun bt140 => (if bt140.2 = 0 then (if (bt140.1.length : Int) = 512 then (if 0 < (bt140.1.length : Int) then (if (rd bt140.1 0) = 20 then (if 1 < (bt140.1.length : Int) then (some ((rd bt140.1 1) == 0)) else (none)) else (some false)) else (none)) else (some false)) else (some false))) else (none)) else (none)))) else (none)) = some r := by first | (rw [hy131]; with_reducible exact H) | (have H2_ := (Option.bind_some _ _).symm.trans H; rw [hy131]; with_reducible exact H2_) | (have H2_ := (Option.bind_some _ _).symm.trans H; with_reducible exact H2_) | with_reducible exact H | (rw [hy131]; exact H) | exact H
      have Ny131 := Aside0.mk hy131
      clear hy131
      by_cases c4 : 21 ≤ 35184372088832
      · rw [if_pos c4] at H
        have c4b0 := eq_true c4
        have c4b1 : decide (21 ≤ 35184372088832) = true := decide_eq_true c4
        clear c4
        obtain ⟨y132, hy132⟩ : ∃ y_ : List Int, y_ = (List.replicate 21 0) := ⟨_, rfl⟩
        replace H : ((some (List.replicate 21 0 : List Int)).bind fun y135 => (if 0 < (y132.length : Int) then (if 0 < (y135.length : Int) then ((quant_Heard.f k y131 (y132.set (0 : Int).toNat 5) (y135.set (0 : Int).toNat 2) 1).bind fun bt140 => (if bt140.2 = 0 then (if (bt140.1.length : Int) = 512 then (if 0 < (bt140.1.length : Int) then (if (rd bt140.1 0) = 20 then (if 1 < (bt140.1.length : Int) then (some ((rd bt140.1 1) == 0)) else (none)) else (some false)) else (none)) else (some false)) else (some false))) else (none)) else (none))) = some r := by first | (rw [hy132]; with_reducible exact H) | (have H2_ := (Option.bind_some _ _).symm.trans H; rw [hy132]; with_reducible exact H2_) | (have H2_ := (Option.bind_some _ _).symm.trans H; with_reducible exact H2_) | with_reducible exact H | (rw [hy132]; exact H) | exact H
        have Ny132 := Aside0.mk hy132
        clear hy132
        obtain ⟨y135, hy135⟩ : ∃ y_ : List Int, y_ = (List.replicate 21 0) := ⟨_, rfl⟩
        replace H : (if 0 < (y132.length : Int) then (if 0 < (y135.length : Int) then ((quant_Heard.f k y131 (y132.set (0 : Int).toNat 5) (y135.set (0 : Int).toNat 2) 1).bind fun bt140 => (if bt140.2 = 0 then (if (bt140.1.length : Int) = 512 then (if 0 < (bt140.1.length : Int) then (if (rd bt140.1 0) = 20 then (if 1 < (bt140.1.length : Int) then (some ((rd bt140.1 1) == 0)) else (none)) else (some false)) else (none)) else (some false)) else (some false))) else (none)) else (none)) = some r := by first | (rw [hy135]; with_reducible exact H) | (have H2_ := (Option.bind_some _ _).symm.trans H; rw [hy135]; with_reducible exact H2_) | (have H2_ := (Option.bind_some _ _).symm.trans H; with_reducible exact H2_) | with_reducible exact H | (rw [hy135]; exact H) | exact H
        have Ny135 := Aside0.mk hy135
        clear hy135
        by_cases c5 : 0 < (y132.length : Int)
        · rw [if_pos c5] at H
          have c5b0 : decide (0 < (y132.length : Int)) = true := decide_eq_true c5
          have c5b1 : decide (0 < y132.length) = true := decide_eq_true (by omega)
          clear c5
          obtain ⟨y138, hy138⟩ : ∃ y_ : List Int, y_ = (y132.set (0 : Int).toNat 5) := ⟨_, rfl⟩
          replace H : (if 0 < (y135.length : Int) then ((quant_Heard.f k y131 y138 (y135.set (0 : Int).toNat 2) 1).bind fun bt140 => (if bt140.2 = 0 then (if (bt140.1.length : Int) = 512 then (if 0 < (bt140.1.length : Int) then (if (rd bt140.1 0) = 20 then (if 1 < (bt140.1.length : Int) then (some ((rd bt140.1 1) == 0)) else (none)) else (some false)) else (none)) else (some false)) else (some false))) else (none)) = some r := by first | (rw [hy138]; with_reducible exact H) | (have H2_ := (Option.bind_some _ _).symm.trans H; rw [hy138]; with_reducible exact H2_) | (have H2_ := (Option.bind_some _ _).symm.trans H; with_reducible exact H2_) | with_reducible exact H | (rw [hy138]; exact H) | exact H
          have Ny138 := Aside0.mk hy138
          clear hy138
          by_cases c7 : 0 < (y135.length : Int)
          · rw [if_pos c7] at H
            have c7b0 : decide (0 < (y135.length : Int)) = true := decide_eq_true c7
            have c7b1 : decide (0 < y135.length) = true := decide_eq_true (by omega)
            clear c7
            obtain ⟨y139, hy139⟩ : ∃ y_ : List Int, y_ = (y135.set (0 : Int).toNat 2) := ⟨_, rfl⟩
            replace H : ((quant_Heard.f k y131 y138 y139 1).bind fun bt140 => (if bt140.2 = 0 then (if (bt140.1.length : Int) = 512 then (if 0 < (bt140.1.length : Int) then (if (rd bt140.1 0) = 20 then (if 1 < (bt140.1.length : Int) then (some ((rd bt140.1 1) == 0)) else (none)) else (some false)) else (none)) else (some false)) else (some false))) = some r := by first | (rw [hy139]; with_reducible exact H) | (have H2_ := (Option.bind_some _ _).symm.trans H; rw [hy139]; with_reducible exact H2_) | (have H2_ := (Option.bind_some _ _).symm.trans H; with_reducible exact H2_) | with_reducible exact H | (rw [hy139]; exact H) | exact H
            have Ny139 := Aside0.mk hy139
            clear hy139
            replace H := Option.bind_eq_some_iff.mp H
            obtain ⟨⟨t140, t141⟩, A90, H⟩ := H
            replace H : (if t141 = 0 then (if (t140.length : Int) = 512 then (if 0 < (t140.length : Int) then (if (rd t140 0) = 20 then (if 1 < (t140.length : Int) then (some ((rd t140 1) == 0)) else (none)) else (some false)) else (none)) else (some false)) else (some false)) = some r := H
            have A9 := Aside0.mk A90
            clear A90
            by_cases c10 : t141 = 0
            · rw [if_pos c10] at H
              have c10b0 : (t141 == 0) = true := beq_iff_eq.mpr c10
              have c10b1 : (t141 != 0) = false := bne_eq_false_iff_eq.mpr c10
              clear c10
              by_cases c11 : (t140.length : Int) = 512
              · rw [if_pos c11] at H
                have c11b0 : ((t140.length : Int) == 512) = true := beq_iff_eq.mpr c11
                have c11b1 : ((t140.length : Int) != 512) = false := bne_eq_false_iff_eq.mpr c11
                clear c11
                by_cases c12 : 0 < (t140.length : Int)
                · rw [if_pos c12] at H
                  have c12b0 : decide (0 < (t140.length : Int)) = true := decide_eq_true c12
                  have c12b1 : decide (0 < t140.length) = true := decide_eq_true (by omega)
                  clear c12
                  by_cases c13 : (rd t140 0) = 20
                  · rw [if_pos c13] at H
                    have c13b0 : ((rd t140 0) == 20) = true := beq_iff_eq.mpr c13
                    have c13b1 : ((rd t140 0) != 20) = false := bne_eq_false_iff_eq.mpr c13
                    clear c13
                    by_cases c14 : 1 < (t140.length : Int)
                    · rw [if_pos c14] at H
                      have c14b0 : decide (1 < (t140.length : Int)) = true := decide_eq_true c14
                      have c14b1 : decide (1 < t140.length) = true := decide_eq_true (by omega)
                      clear c14
                      obtain rfl := Option.some.inj H
                      go_enter Try.func48, Try.ntmps48
                      try go_wp2_with (first | ((with_reducible refine gate_dst (N := 6) rfl ?_); (try (refine gate_guard (by rfl) ?_; dsimp only)); refine Kd.R_make (Kd.int .i32) _ 21 rfl (N := 6) rfl 86 _ _ rfl 512 rfl rfl Try.underlying86 (.int .i32 0) 4 info21 rfl (by decide) (by omega) 0 (ok := fun _ => True) (okp := fun _ => True) rfl (fun _ hk => hk) trivial (by omega) (by omega) (Below.refl _ _) (Nat.le_refl _) ?_; intro v129 w15 ho16 hb hg_ hnew_; clear hg_ hnew_; (first | rw [← Ny128.out] at ho16 | (simp only [Int.reduceToNat] at ho16; rw [← Ny128.out] at ho16)); have n0_ := Aside0.mk (Kd.R_lower ho16 (below_size (by repeat (first | (with_reducible first | exact HB.out | apply below_alloc | apply pw_below_drewN | apply below_drew1) | exact HB.out)))); have n1_ := Aside0.mk (below_step (by repeat (first | (with_reducible first | exact HB.out | apply below_alloc | apply pw_below_drewN | apply below_drew1) | exact HB.out)) hb); clear HB; have HO130 := n0_; have HB := n1_; clear n0_ n1_; clear hb ho16; have p3 : 0 ≤ (0 : Int) := (by omega); have q3 : (0 : Int) < ((y128.length : Int) : Int) := of_decide_eq_true (by first | (with_reducible assumption) | assumption); have qi3 : (0 < y128.length) = True := eq_true (by omega); obtain ⟨go3, co3, eo3, gb3, gl3, cl3, HG3⟩ := Kd.R_form HO130.out (by omega); (first | cases eo3 | (injection eo3 with ea_ en_ ec_; (first | subst ea_ | (injection ea_ with ea_; subst ea_)); subst ec_; clear en_)); have GB3 := Aside0.mk gb3; have GG3 := Aside0.mk HG3; clear gb3 gl3 HG3; obtain ⟨hx3_0, hf3_0⟩ := Kd.R_celln 0 HO130.out (0 : Int) p3 q3; (try rw [show ((0 : Int)).toNat = 0 from rfl] at hx3_0); (try simp only [Nat.reduceMul, Nat.zero_mul, Nat.zero_add, Nat.reduceAdd] at hx3_0); (try rw [show ((0 : Int)).toNat = 0 from rfl] at hf3_0); (try simp only [Nat.reduceMul, Nat.zero_mul, Nat.zero_add, Nat.reduceAdd] at hf3_0); replace p3 := eq_true p3; replace q3 := eq_true q3; obtain ⟨hy17_, hz17_⟩ := Kd.R_celln 0 HO130.out (0 : Int) (by omega) (of_decide_eq_true (by first | (with_reducible assumption) | assumption)); (try simp only [Int.reduceToNat, Int.toNat_zero, Int.toNat_ofNat, Nat.reduceMul, Nat.zero_mul, Nat.zero_add] at hy17_ hz17_); (try rw [show ((0 : Int)).toNat = 0 from rfl] at hy17_); (try rw [show ((0 : Int)).toNat = 0 from rfl] at hz17_); have HP17 := Kd.R_putg HO130.out (0 : Int) 21) | ((with_reducible refine gate_store (t := 21) (p := 8) rfl ?_); refine store_event (t := 21) (p := 8) (v := ?vo_w18) (w1 := (w15.setCell ⟨go3, (0 : Int).toNat, none⟩ (.int .i32 21))) ?hg ?ho ?hn ?hr ?_; (case ho => rfl); (case hg => rfl); (case hn => rfl); (case hr => first | (go_simp; done) | (go_simp; rfl)); intro w18 hw; have hg : w15.grownBy w18 (some go3) := (by rw [hw]; exact HP17.2); have hp_ : Kd.R (Kd.int .i32) 21 w18 w.heap.size (fun _ => True) (.slice (some ⟨go3, 0, none⟩) y128.length co3) y131 := (by rw [hw, Ny131.out]; exact HP17.1); clear HP17; have n0_ := Aside0.mk (hp_); have n1_ := Aside0.mk ((by rw [hw]; exact below_set (HB.out) GB3.out : Below w.heap.size w w18)); clear HO130; clear HB; have HO130 := n0_; have HB := n1_; clear n0_ n1_; clear hg hw hp_))
                      have n0_ := Aside0.mk (Kd.R_drew HO130.out)
                      have n1_ := Aside0.mk (below_drew1 HB.out)
                      clear HO130
                      clear HB
                      have HO130 := n0_
                      have HB := n1_
                      clear n0_ n1_
                      refine start_ (n := 4) (S := fun w' => True) (ds := []) #[false, false, false, false] (by kernel_rfl) rfl rfl trivial (fun hHeld => ?_)
                      generalize w18.drew = w19 at HO130 HB hHeld ⊢
                      refine join_ (σ := Value × Value) 1 #[true, true, true, false] (fun s_ => [(9, s_.1), (10, s_.2), (2, s_.1)]) (fun s_ w' => (Kd.R (Kd.int .i32) 21 w' w.heap.size (fun _ => True) (.slice (some ⟨go3, 0, none⟩) y128.length co3) y131) ∧ (Kd.R (Kd.int .i64) 3 w' w.heap.size (fun k_ => some k_ ≠ (s_.2 : Value).ownBlock) s_.1 y132) ∧ (Kd.R (Kd.int .i64) 3 w' w.heap.size (fun k_ => some k_ ≠ (s_.1 : Value).ownBlock) s_.2 y135) ∧ (Below w.heap.size w w')) ?_ ?_
                      rotate_left
                      · intro hCont
                        refine two_ (i := 0) (j := 1) (Ni := some 9) (Nj := some 10) #[true, false, false, false] #[false, true, false, false] rfl rfl rfl rfl (by kernel_rfl) (by decide) (by decide) (fun K hK => ?_) (fun K hK => ?_)
                        · skip
                          refine Kd.R_make_step (Kd.int .i64) _ 3 (by rfl) (N := 9) rfl 54 _ _ rfl 21 rfl rfl Try.underlying54 (.int .i64 0) 8 info3 rfl (by decide) (by omega) 0 (ok := fun _ => True) (okp := fun _ => True) rfl (fun _ hk => hk) trivial (by omega) (by omega) (Below.refl _ _) (Nat.le_refl _) ?_
                          intro v133 w20 ho21 hb hg_ hnew_
                          clear hg_ hnew_
                          (first | rw [← Ny132.out] at ho21 | (simp only [Int.reduceToNat] at ho21; rw [← Ny132.out] at ho21))
                          have n0_ := Aside0.mk (Kd.R_below (by (with_reducible repeat (first | apply Kd.R_alloc | apply Kd.R_drewN | apply Kd.R_drew)); exact HO130.out) hb)
                          have n1_ := Aside0.mk (Kd.R_lower ho21 (below_size (by repeat (first | (with_reducible first | exact HB.out | apply below_alloc | apply pw_below_drewN | apply below_drew1) | exact HB.out))))
                          have n2_ := Aside0.mk (below_step (by repeat (first | (with_reducible first | exact HB.out | apply below_alloc | apply pw_below_drewN | apply below_drew1) | exact HB.out)) hb)
                          clear HO130
                          clear HB
                          have HO130 := n0_
                          have HO134 := n1_
                          have HB := n2_
                          clear n0_ n1_ n2_
                          clear hb ho21
                          refine hK.out _ _ trivial (fun hHeld => ?_)
                          clear hK K
                          refine norm_ (a' := ?_) ?_ ?_
                          rotate_left
                          · show Act.put _ (some 9) _ = _
                            simp only [Act.put, List.setIfInBounds_toArray, List.set_cons_zero, List.set_cons_succ, i64_w, i32_w]
                            rfl
                          refine pure_ (i := 2) (N := some 2) (v := ?_) (a' := ?_) #[true, false, true, false] rfl rfl (by kernel_rfl) (fun _ _ _ h => h) (Or.inl ⟨by rfl, ?_⟩) ?_ ?_
                          rotate_left
                          · intro w'
                            go_simp
                            with_reducible rfl
                          rotate_left
                          · simp only [Act.put, List.setIfInBounds_toArray, List.set_cons_zero, List.set_cons_succ, i64_w, i32_w]
                            rfl
                          refine one_ (i := 1) (N := some 10) #[true, true, true, false] rfl rfl (by kernel_rfl) (by decide) (fun K hK => ?_)
                          refine Kd.R_make_step (Kd.int .i64) _ 3 (by rfl) (N := 10) rfl 54 _ _ rfl 21 rfl rfl Try.underlying54 (.int .i64 0) 8 info3 rfl (by decide) (by omega) 0 (ok := fun _ => True) (okp := fun _ => True) rfl (fun _ hk => hk) trivial (by omega) (by omega) (Below.refl _ _) (Nat.le_refl _) ?_
                          intro v136 w22 ho23 hb hg_ hnew_
                          clear hg_ hnew_
                          (first | rw [← Ny135.out] at ho23 | (simp only [Int.reduceToNat] at ho23; rw [← Ny135.out] at ho23))
                          have n0_ := Aside0.mk (Kd.R_below (by (with_reducible repeat (first | apply Kd.R_alloc | apply Kd.R_drewN | apply Kd.R_drew)); exact HO130.out) hb)
                          have n1_ := Aside0.mk (Kd.R_elder' (by (with_reducible repeat (first | apply Kd.R_alloc | apply Kd.R_drewN | apply Kd.R_drew)); exact HO134.out) (Kd.R_base ho23) hb)
                          have n2_ := Aside0.mk (Kd.R_lower (Kd.R_new' ho23 (Kd.R_lt (by (with_reducible repeat (first | apply Kd.R_alloc | apply Kd.R_drewN | apply Kd.R_drew)); exact HO134.out))) (below_size (by repeat (first | (with_reducible first | exact HB.out | apply below_alloc | apply pw_below_drewN | apply below_drew1) | exact HB.out))))
                          have n3_ := Aside0.mk (below_step (by repeat (first | (with_reducible first | exact HB.out | apply below_alloc | apply pw_below_drewN | apply below_drew1) | exact HB.out)) hb)
                          clear HO130
                          clear HO134
                          clear HB
                          have HO130 := n0_
                          have HO134 := n1_
                          have HO137 := n2_
                          have HB := n3_
                          clear n0_ n1_ n2_ n3_
                          clear hb ho23
                          refine hK.out _ _ trivial (fun hHeld => ?_)
                          clear hK K
                          refine norm_ (a' := ?_) ?_ ?_
                          rotate_left
                          · show Act.put _ (some 10) _ = _
                            simp only [Act.put, List.setIfInBounds_toArray, List.set_cons_zero, List.set_cons_succ, i64_w, i32_w]
                            rfl
                          exact norm_ (by simp only [putAll, Act.put, List.setIfInBounds_toArray, List.set_cons_zero, List.set_cons_succ]) (hCont (v133, v136) _ ⟨(by (with_reducible repeat (first | apply Kd.R_alloc | apply Kd.R_drewN | apply Kd.R_drew)); exact HO130.out), (by (with_reducible repeat (first | apply Kd.R_alloc | apply Kd.R_drewN | apply Kd.R_drew)); exact Kd.R_mono HO134.out (fun _ hk => hk.2)), (by (with_reducible repeat (first | apply Kd.R_alloc | apply Kd.R_drewN | apply Kd.R_drew)); exact Kd.R_mono HO137.out (fun _ hk => hk.2)), (by repeat (first | (with_reducible first | exact HB.out | apply below_alloc | apply pw_below_drewN | apply below_drew1) | exact HB.out))⟩)
                        · skip
                          refine Kd.R_make_step (Kd.int .i64) _ 3 (by rfl) (N := 10) rfl 54 _ _ rfl 21 rfl rfl Try.underlying54 (.int .i64 0) 8 info3 rfl (by decide) (by omega) 0 (ok := fun _ => True) (okp := fun _ => True) rfl (fun _ hk => hk) trivial (by omega) (by omega) (Below.refl _ _) (Nat.le_refl _) ?_
                          intro v136 w20 ho21 hb hg_ hnew_
                          clear hg_ hnew_
                          (first | rw [← Ny135.out] at ho21 | (simp only [Int.reduceToNat] at ho21; rw [← Ny135.out] at ho21))
                          have n0_ := Aside0.mk (Kd.R_below (by (with_reducible repeat (first | apply Kd.R_alloc | apply Kd.R_drewN | apply Kd.R_drew)); exact HO130.out) hb)
                          have n1_ := Aside0.mk (Kd.R_lower ho21 (below_size (by repeat (first | (with_reducible first | exact HB.out | apply below_alloc | apply pw_below_drewN | apply below_drew1) | exact HB.out))))
                          have n2_ := Aside0.mk (below_step (by repeat (first | (with_reducible first | exact HB.out | apply below_alloc | apply pw_below_drewN | apply below_drew1) | exact HB.out)) hb)
                          clear HO130
                          clear HB
                          have HO130 := n0_
                          have HO137 := n1_
                          have HB := n2_
                          clear n0_ n1_ n2_
                          clear hb ho21
                          refine hK.out _ _ trivial (fun hHeld => ?_)
                          clear hK K
                          refine norm_ (a' := ?_) ?_ ?_
                          rotate_left
                          · show Act.put _ (some 10) _ = _
                            simp only [Act.put, List.setIfInBounds_toArray, List.set_cons_zero, List.set_cons_succ, i64_w, i32_w]
                            rfl
                          refine one_ (i := 0) (N := some 9) #[true, true, false, false] rfl rfl (by kernel_rfl) (by decide) (fun K hK => ?_)
                          refine Kd.R_make_step (Kd.int .i64) _ 3 (by rfl) (N := 9) rfl 54 _ _ rfl 21 rfl rfl Try.underlying54 (.int .i64 0) 8 info3 rfl (by decide) (by omega) 0 (ok := fun _ => True) (okp := fun _ => True) rfl (fun _ hk => hk) trivial (by omega) (by omega) (Below.refl _ _) (Nat.le_refl _) ?_
                          intro v133 w22 ho23 hb hg_ hnew_
                          clear hg_ hnew_
                          (first | rw [← Ny132.out] at ho23 | (simp only [Int.reduceToNat] at ho23; rw [← Ny132.out] at ho23))
                          have n0_ := Aside0.mk (Kd.R_below (by (with_reducible repeat (first | apply Kd.R_alloc | apply Kd.R_drewN | apply Kd.R_drew)); exact HO130.out) hb)
                          have n1_ := Aside0.mk (Kd.R_elder' (by (with_reducible repeat (first | apply Kd.R_alloc | apply Kd.R_drewN | apply Kd.R_drew)); exact HO137.out) (Kd.R_base ho23) hb)
                          have n2_ := Aside0.mk (Kd.R_lower (Kd.R_new' ho23 (Kd.R_lt (by (with_reducible repeat (first | apply Kd.R_alloc | apply Kd.R_drewN | apply Kd.R_drew)); exact HO137.out))) (below_size (by repeat (first | (with_reducible first | exact HB.out | apply below_alloc | apply pw_below_drewN | apply below_drew1) | exact HB.out))))
                          have n3_ := Aside0.mk (below_step (by repeat (first | (with_reducible first | exact HB.out | apply below_alloc | apply pw_below_drewN | apply below_drew1) | exact HB.out)) hb)
                          clear HO130
                          clear HO137
                          clear HB
                          have HO130 := n0_
                          have HO137 := n1_
                          have HO134 := n2_
                          have HB := n3_
                          clear n0_ n1_ n2_ n3_
                          clear hb ho23
                          refine hK.out _ _ trivial (fun hHeld => ?_)
                          clear hK K
                          refine norm_ (a' := ?_) ?_ ?_
                          rotate_left
                          · show Act.put _ (some 9) _ = _
                            simp only [Act.put, List.setIfInBounds_toArray, List.set_cons_zero, List.set_cons_succ, i64_w, i32_w]
                            rfl
                          refine pure_ (i := 2) (N := some 2) (v := ?_) (a' := ?_) #[true, true, true, false] rfl rfl (by kernel_rfl) (fun _ _ _ h => h) (Or.inl ⟨by rfl, ?_⟩) ?_ ?_
                          rotate_left
                          · intro w'
                            go_simp
                            with_reducible rfl
                          rotate_left
                          · simp only [Act.put, List.setIfInBounds_toArray, List.set_cons_zero, List.set_cons_succ, i64_w, i32_w]
                            rfl
                          exact norm_ (by simp only [putAll, Act.put, List.setIfInBounds_toArray, List.set_cons_zero, List.set_cons_succ]) (hCont (v133, v136) _ ⟨(by (with_reducible repeat (first | apply Kd.R_alloc | apply Kd.R_drewN | apply Kd.R_drew)); exact HO130.out), (by (with_reducible repeat (first | apply Kd.R_alloc | apply Kd.R_drewN | apply Kd.R_drew)); exact Kd.R_mono HO134.out (fun _ hk => hk.2)), (by (with_reducible repeat (first | apply Kd.R_alloc | apply Kd.R_drewN | apply Kd.R_drew)); exact Kd.R_mono HO137.out (fun _ hk => hk.2)), (by repeat (first | (with_reducible first | exact HB.out | apply below_alloc | apply pw_below_drewN | apply below_drew1) | exact HB.out))⟩)
                      rintro ⟨v133, v136⟩ w24 ⟨h0_, h1_, h2_, h3_⟩
                      have n0_ : Aside0 (Kd.R (Kd.int .i32) 21 w24 w.heap.size (fun _ => True) (.slice (some ⟨go3, 0, none⟩) y128.length co3) y131) := ⟨h0_⟩
                      have n1_ : Aside0 (Kd.R (Kd.int .i64) 3 w24 w.heap.size (fun k_ => some k_ ≠ (v136 : Value).ownBlock) v133 y132) := ⟨h1_⟩
                      have n2_ : Aside0 (Kd.R (Kd.int .i64) 3 w24 w.heap.size (fun k_ => some k_ ≠ (v133 : Value).ownBlock) v136 y135) := ⟨h2_⟩
                      have n3_ : Aside0 (Below w.heap.size w w24) := ⟨h3_⟩
                      clear HO130
                      clear HB
                      clear h0_ h1_ h2_ h3_
                      have HO130 := n0_
                      have HO134 := n1_
                      have HO137 := n2_
                      have HB := n3_
                      clear n0_ n1_ n2_ n3_
                      have hHeld := trivial
                      refine norm_ (a' := ?_) ?_ ?_
                      rotate_left
                      · simp only [putAll, Act.put, List.setIfInBounds_toArray, List.set_cons_zero, List.set_cons_succ]
                        rfl
                      refine pure_ (i := 3) (N := some 3) (v := ?_) (a' := ?_) #[true, true, true, true] rfl rfl (by kernel_rfl) (fun _ _ _ h => h) (Or.inl ⟨by rfl, ?_⟩) ?_ ?_
                      rotate_left
                      · intro w'
                        go_simp
                        with_reducible rfl
                      rotate_left
                      · simp only [Act.put, List.setIfInBounds_toArray, List.set_cons_zero, List.set_cons_succ, i64_w, i32_w]
                        rfl
                      refine done_ (by kernel_rfl) ?_
                      have p6 : 0 ≤ (0 : Int) := (by omega)
                      have q6 : (0 : Int) < ((y132.length : Int) : Int) := of_decide_eq_true (by first | (with_reducible assumption) | assumption)
                      have qi6 : (0 < y132.length) = True := eq_true (by omega)
                      obtain ⟨go6, co6, eo6, gb6, gl6, cl6, HG6⟩ := Kd.R_form HO134.out (by omega)
                      (first | cases eo6 | (injection eo6 with ea_ en_ ec_; (first | subst ea_ | (injection ea_ with ea_; subst ea_)); subst ec_; clear en_))
                      have GB6 := Aside0.mk gb6
                      have GG6 := Aside0.mk HG6
                      clear gb6 gl6 HG6
                      obtain ⟨hx6_0, hf6_0⟩ := Kd.R_celln 0 HO134.out (0 : Int) p6 q6
                      (try rw [show ((0 : Int)).toNat = 0 from rfl] at hx6_0)
                      (try simp only [Nat.reduceMul, Nat.zero_mul, Nat.zero_add, Nat.reduceAdd] at hx6_0)
                      (try rw [show ((0 : Int)).toNat = 0 from rfl] at hf6_0)
                      (try simp only [Nat.reduceMul, Nat.zero_mul, Nat.zero_add, Nat.reduceAdd] at hf6_0)
                      replace p6 := eq_true p6
                      replace q6 := eq_true q6
                      obtain ⟨hy25_, hz25_⟩ := Kd.R_celln 0 HO134.out (0 : Int) (by omega) (of_decide_eq_true (by first | (with_reducible assumption) | assumption))
                      (try simp only [Int.reduceToNat, Int.toNat_zero, Int.toNat_ofNat, Nat.reduceMul, Nat.zero_mul, Nat.zero_add] at hy25_ hz25_)
                      (try rw [show ((0 : Int)).toNat = 0 from rfl] at hy25_)
                      (try rw [show ((0 : Int)).toNat = 0 from rfl] at hz25_)
                      have HP25 := Kd.R_putg HO134.out (0 : Int) 5
                      try go_wp2_with (first | ((with_reducible refine gate_store (t := 3) (p := 13) rfl ?_); refine store_event (t := 3) (p := 13) (v := ?vo_w26) (w1 := (w24.setCell ⟨go6, (0 : Int).toNat, none⟩ (.int .i64 5))) ?hg ?ho ?hn ?hr ?_; (case ho => rfl); (case hg => rfl); (case hn => rfl); (case hr => first | (go_simp; done) | (go_simp; rfl)); intro w26 hw; have hg : w24.grownBy w26 (some go6) := (by rw [hw]; exact HP25.2); have hp_ : Kd.R (Kd.int .i64) 3 w26 w.heap.size (fun k_ => some k_ ≠ (v136 : Value).ownBlock) (.slice (some ⟨go6, 0, none⟩) y132.length co6) y138 := (by rw [hw, Ny138.out]; exact HP25.1); clear HP25; have n0_ := Aside0.mk (Kd.R_over' (v := (.slice (some ⟨go6, 0, none⟩) y132.length co6)) (by (with_reducible repeat (first | apply Kd.R_alloc | apply Kd.R_drewN | apply Kd.R_drew)); exact HO130.out) (Kd.R_typed HO134.out) (by decide) hg); have n1_ := Aside0.mk (hp_); have n2_ := Aside0.mk (Kd.R_after (v := (.slice (some ⟨go6, 0, none⟩) y132.length co6)) (v1 := (.slice (some ⟨go6, 0, none⟩) y132.length co6)) (ok := (fun _ => True)) (by (with_reducible repeat (first | apply Kd.R_alloc | apply Kd.R_drewN | apply Kd.R_drew)); exact Kd.R_mono HO137.out (fun _ hk => ⟨trivial, hk⟩)) hg (.inl rfl)); have n3_ := Aside0.mk ((by rw [hw]; exact below_set (HB.out) GB6.out : Below w.heap.size w w26)); clear HO130; clear HO134; clear HO137; clear HB; have HO130 := n0_; have HO134 := n1_; have HO137 := n2_; have HB := n3_; clear n0_ n1_ n2_ n3_; clear hg hw hp_; have p8 : 0 ≤ (0 : Int) := (by omega); have q8 : (0 : Int) < ((y135.length : Int) : Int) := of_decide_eq_true (by first | (with_reducible assumption) | assumption); have qi8 : (0 < y135.length) = True := eq_true (by omega); obtain ⟨go8, co8, eo8, gb8, gl8, cl8, HG8⟩ := Kd.R_form HO137.out (by omega); (first | cases eo8 | (injection eo8 with ea_ en_ ec_; (first | subst ea_ | (injection ea_ with ea_; subst ea_)); subst ec_; clear en_)); have GB8 := Aside0.mk gb8; have GG8 := Aside0.mk HG8; clear gb8 gl8 HG8; obtain ⟨hx8_0, hf8_0⟩ := Kd.R_celln 0 HO137.out (0 : Int) p8 q8; (try rw [show ((0 : Int)).toNat = 0 from rfl] at hx8_0); (try simp only [Nat.reduceMul, Nat.zero_mul, Nat.zero_add, Nat.reduceAdd] at hx8_0); (try rw [show ((0 : Int)).toNat = 0 from rfl] at hf8_0); (try simp only [Nat.reduceMul, Nat.zero_mul, Nat.zero_add, Nat.reduceAdd] at hf8_0); replace p8 := eq_true p8; replace q8 := eq_true q8; have n_ := Aside0.mk (Kd.R_mono (ok' := (fun k_ => some k_ ≠ (.slice (some ⟨go6, 0, none⟩) y132.length co6 : Value).ownBlock)) HO137.out (fun k_ hk => hk.2)); clear HO137; have HO137 := n_; clear n_; obtain ⟨hy27_, hz27_⟩ := Kd.R_celln 0 HO137.out (0 : Int) (by omega) (of_decide_eq_true (by first | (with_reducible assumption) | assumption)); (try simp only [Int.reduceToNat, Int.toNat_zero, Int.toNat_ofNat, Nat.reduceMul, Nat.zero_mul, Nat.zero_add] at hy27_ hz27_); (try rw [show ((0 : Int)).toNat = 0 from rfl] at hy27_); (try rw [show ((0 : Int)).toNat = 0 from rfl] at hz27_); have HP27 := Kd.R_putg HO137.out (0 : Int) 2) | ((with_reducible refine gate_store (t := 3) (p := 14) rfl ?_); refine store_event (t := 3) (p := 14) (v := ?vo_w28) (w1 := (w26.setCell ⟨go8, (0 : Int).toNat, none⟩ (.int .i64 2))) ?hg ?ho ?hn ?hr ?_; (case ho => rfl); (case hg => rfl); (case hn => rfl); (case hr => first | (go_simp; done) | (go_simp; rfl)); intro w28 hw; have hg : w26.grownBy w28 (some go8) := (by rw [hw]; exact HP27.2); have hp_ : Kd.R (Kd.int .i64) 3 w28 w.heap.size (fun k_ => some k_ ≠ (.slice (some ⟨go6, 0, none⟩) y132.length co6 : Value).ownBlock) (.slice (some ⟨go8, 0, none⟩) y135.length co8) y139 := (by rw [hw, Ny139.out]; exact HP27.1); clear HP27; have n0_ := Aside0.mk (Kd.R_over' (v := (.slice (some ⟨go8, 0, none⟩) y135.length co8)) (by (with_reducible repeat (first | apply Kd.R_alloc | apply Kd.R_drewN | apply Kd.R_drew)); exact HO130.out) (Kd.R_typed HO137.out) (by decide) hg); have n1_ := Aside0.mk (Kd.R_after (v := (.slice (some ⟨go8, 0, none⟩) y135.length co8)) (v1 := (.slice (some ⟨go8, 0, none⟩) y135.length co8)) (ok := (fun _ => True)) (by (with_reducible repeat (first | apply Kd.R_alloc | apply Kd.R_drewN | apply Kd.R_drew)); exact Kd.R_mono HO134.out (fun _ hk => ⟨trivial, hk⟩)) hg (.inl rfl)); have n2_ := Aside0.mk (hp_); have n3_ := Aside0.mk ((by rw [hw]; exact below_set (HB.out) GB8.out : Below w.heap.size w w28)); clear HO130; clear HO134; clear HO137; clear HB; have HO130 := n0_; have HO134 := n1_; have HO137 := n2_; have HB := n3_; clear n0_ n1_ n2_ n3_; clear hg hw hp_) | ((with_reducible refine gate_callee (f := 51) rfl ?_); refine goesL_ (some 19) rfl rfl Try.func51 (by kernel_rfl) rfl #[.slice (some ⟨go3, 0, none⟩) y131.length co3, .slice (some ⟨go6, 0, none⟩) y138.length co6, .slice (some ⟨go8, 0, none⟩) y139.length co8, .int .u32 1] rfl (by (try simp only [List.map_toArray, List.map_cons, List.map_nil]); first | done | (rw [show y131.length = y128.length from (Kd.R_reads' HO130.out).1.symm, show y138.length = y132.length from (Kd.R_reads' HO134.out).1.symm, show y139.length = y135.length from (Kd.R_reads' HO137.out).1.symm] <;> rfl) | rfl | (simp only [List.length_drop, List.length_take]; rfl)) ?_; (with_reducible refine (quant_Heard.calls k _ _ y131 _ _ y138 _ _ y139 1 t140 t141 _ ?side1 ?side2 ?side3 ?side4 ?side5 ?side6 A9.out).mono ?_); (case side1 => repeat (first | exact (Kd.R_reads' HO130.out).2.2 | (with_reducible refine Kd.C_alloc ?_ _) | (with_reducible refine Kd.C_drewN ?_ _) | (with_reducible refine Kd.C_drew ?_))); (case side2 => rw [show y131.length = y128.length from (Kd.R_reads' HO130.out).1.symm]; exact (Kd.R_reads' HO130.out).2.1); (case side3 => repeat (first | exact (Kd.R_reads' HO134.out).2.2 | (with_reducible refine Kd.C_alloc ?_ _) | (with_reducible refine Kd.C_drewN ?_ _) | (with_reducible refine Kd.C_drew ?_))); (case side4 => rw [show y138.length = y132.length from (Kd.R_reads' HO134.out).1.symm]; exact (Kd.R_reads' HO134.out).2.1); (case side5 => repeat (first | exact (Kd.R_reads' HO137.out).2.2 | (with_reducible refine Kd.C_alloc ?_ _) | (with_reducible refine Kd.C_drewN ?_ _) | (with_reducible refine Kd.C_drew ?_))); (case side6 => rw [show y139.length = y135.length from (Kd.R_reads' HO137.out).1.symm]; exact (Kd.R_reads' HO137.out).2.1); rintro e w29 ⟨v142, rfl, ho0, hb⟩; refine ⟨_, rfl, ?_⟩; have n0_ := Aside0.mk (Kd.R_elder' (by (with_reducible repeat (first | apply Kd.R_alloc | apply Kd.R_drewN | apply Kd.R_drew)); exact HO130.out) (Kd.R_base ho0) hb); have n1_ := Aside0.mk (Kd.R_below (by (with_reducible repeat (first | apply Kd.R_alloc | apply Kd.R_drewN | apply Kd.R_drew)); exact HO134.out) hb); have n2_ := Aside0.mk (Kd.R_below (by (with_reducible repeat (first | apply Kd.R_alloc | apply Kd.R_drewN | apply Kd.R_drew)); exact HO137.out) hb); have n3_ := Aside0.mk (Kd.R_lower (Kd.R_new' ho0 (Kd.R_lt (by (with_reducible repeat (first | apply Kd.R_alloc | apply Kd.R_drewN | apply Kd.R_drew)); exact HO130.out))) (below_size (by repeat (first | (with_reducible first | exact HB.out | apply below_alloc | apply pw_below_drewN | apply below_drew1) | exact HB.out)))); have n4_ := Aside0.mk (below_step (by repeat (first | (with_reducible first | exact HB.out | apply below_alloc | apply pw_below_drewN | apply below_drew1) | exact HB.out)) hb); clear HO130; clear HO134; clear HO137; clear HB; have HO130 := n0_; have HO134 := n1_; have HO137 := n2_; have HO143 := n3_; have HB := n4_; clear n0_ n1_ n2_ n3_ n4_; (try clear hb); (try clear hb2); (try clear hk); (try clear hi); (try clear ho0); obtain ⟨Ao30, co30, eo30⟩ := Kd.R_slice HO143.out; (first | subst eo30 | cases eo30); have p144 : 0 ≤ (0 : Int) := (by omega); have q144 : 0 < (t140.length : Int) := of_decide_eq_true (by first | (with_reducible assumption) | assumption); obtain ⟨ad144, e144, hx144_0⟩ := Kd.at_int (Kd.R_reads' HO143.out).2.2 0 p144 q144; cases e144; have qi144 : (0 < t140.length) = True := eq_true (by omega); (try rw [show ((0 : Int)).toNat = 0 from rfl] at hx144_0); (try rw [Addr.add_zero'] at hx144_0); replace p144 := eq_true p144; replace q144 := eq_true q144; have p145 : 0 ≤ (1 : Int) := (by omega); have q145 : 1 < (t140.length : Int) := of_decide_eq_true (by first | (with_reducible assumption) | assumption); obtain ⟨ad145, e145, hx145_0⟩ := Kd.at_int (Kd.R_reads' HO143.out).2.2 1 p145 q145; obtain rfl : ad144 = ad145 := (by injection e145); (try simp only [show (1 : Int).toNat = 1 from rfl, Nat.reduceMul, Nat.reduceEqDiff, Go.Addr.add, ↓reduceIte] at hx145_0); have qi145 : (1 < t140.length) = True := eq_true (by omega); (try rw [show ((1 : Int)).toNat = 1 from rfl] at hx145_0); replace p145 := eq_true p145; replace q145 := eq_true q145))
                      go_ret
                      exact ⟨by first | rfl | (simp [errW_none, errW_some] <;> rfl) | (simp [*, errW_none, errW_some] <;> rfl), by repeat (first | (with_reducible first | exact HB.out | apply below_alloc | apply pw_below_drewN | apply below_drew1) | exact HB.out)⟩
                    · rw [if_neg c14] at H
                      exact absurd H (by simp)
                  · rw [if_neg c13] at H
                    have c13b0 : ((rd t140 0) == 20) = false := beq_eq_false_iff_ne.mpr c13
                    have c13b1 : ((rd t140 0) != 20) = true := bne_iff_ne.mpr c13
                    obtain rfl := Option.some.inj H
                    go_enter Try.func48, Try.ntmps48
                    try go_wp2_with (first | ((with_reducible refine gate_dst (N := 6) rfl ?_); (try (refine gate_guard (by rfl) ?_; dsimp only)); refine Kd.R_make (Kd.int .i32) _ 21 rfl (N := 6) rfl 86 _ _ rfl 512 rfl rfl Try.underlying86 (.int .i32 0) 4 info21 rfl (by decide) (by omega) 0 (ok := fun _ => True) (okp := fun _ => True) rfl (fun _ hk => hk) trivial (by omega) (by omega) (Below.refl _ _) (Nat.le_refl _) ?_; intro v129 w31 ho32 hb hg_ hnew_; clear hg_ hnew_; (first | rw [← Ny128.out] at ho32 | (simp only [Int.reduceToNat] at ho32; rw [← Ny128.out] at ho32)); have n0_ := Aside0.mk (Kd.R_lower ho32 (below_size (by repeat (first | (with_reducible first | exact HB.out | apply below_alloc | apply pw_below_drewN | apply below_drew1) | exact HB.out)))); have n1_ := Aside0.mk (below_step (by repeat (first | (with_reducible first | exact HB.out | apply below_alloc | apply pw_below_drewN | apply below_drew1) | exact HB.out)) hb); clear HB; have HO130 := n0_; have HB := n1_; clear n0_ n1_; clear hb ho32; have p3 : 0 ≤ (0 : Int) := (by omega); have q3 : (0 : Int) < ((y128.length : Int) : Int) := of_decide_eq_true (by first | (with_reducible assumption) | assumption); have qi3 : (0 < y128.length) = True := eq_true (by omega); obtain ⟨go3, co3, eo3, gb3, gl3, cl3, HG3⟩ := Kd.R_form HO130.out (by omega); (first | cases eo3 | (injection eo3 with ea_ en_ ec_; (first | subst ea_ | (injection ea_ with ea_; subst ea_)); subst ec_; clear en_)); have GB3 := Aside0.mk gb3; have GG3 := Aside0.mk HG3; clear gb3 gl3 HG3; obtain ⟨hx3_0, hf3_0⟩ := Kd.R_celln 0 HO130.out (0 : Int) p3 q3; (try rw [show ((0 : Int)).toNat = 0 from rfl] at hx3_0); (try simp only [Nat.reduceMul, Nat.zero_mul, Nat.zero_add, Nat.reduceAdd] at hx3_0); (try rw [show ((0 : Int)).toNat = 0 from rfl] at hf3_0); (try simp only [Nat.reduceMul, Nat.zero_mul, Nat.zero_add, Nat.reduceAdd] at hf3_0); replace p3 := eq_true p3; replace q3 := eq_true q3; obtain ⟨hy33_, hz33_⟩ := Kd.R_celln 0 HO130.out (0 : Int) (by omega) (of_decide_eq_true (by first | (with_reducible assumption) | assumption)); (try simp only [Int.reduceToNat, Int.toNat_zero, Int.toNat_ofNat, Nat.reduceMul, Nat.zero_mul, Nat.zero_add] at hy33_ hz33_); (try rw [show ((0 : Int)).toNat = 0 from rfl] at hy33_); (try rw [show ((0 : Int)).toNat = 0 from rfl] at hz33_); have HP33 := Kd.R_putg HO130.out (0 : Int) 21) | ((with_reducible refine gate_store (t := 21) (p := 8) rfl ?_); refine store_event (t := 21) (p := 8) (v := ?vo_w34) (w1 := (w31.setCell ⟨go3, (0 : Int).toNat, none⟩ (.int .i32 21))) ?hg ?ho ?hn ?hr ?_; (case ho => rfl); (case hg => rfl); (case hn => rfl); (case hr => first | (go_simp; done) | (go_simp; rfl)); intro w34 hw; have hg : w31.grownBy w34 (some go3) := (by rw [hw]; exact HP33.2); have hp_ : Kd.R (Kd.int .i32) 21 w34 w.heap.size (fun _ => True) (.slice (some ⟨go3, 0, none⟩) y128.length co3) y131 := (by rw [hw, Ny131.out]; exact HP33.1); clear HP33; have n0_ := Aside0.mk (hp_); have n1_ := Aside0.mk ((by rw [hw]; exact below_set (HB.out) GB3.out : Below w.heap.size w w34)); clear HO130; clear HB; have HO130 := n0_; have HB := n1_; clear n0_ n1_; clear hg hw hp_))
                    have n0_ := Aside0.mk (Kd.R_drew HO130.out)
                    have n1_ := Aside0.mk (below_drew1 HB.out)
                    clear HO130
                    clear HB
                    have HO130 := n0_
                    have HB := n1_
                    clear n0_ n1_
                    refine start_ (n := 4) (S := fun w' => True) (ds := []) #[false, false, false, false] (by kernel_rfl) rfl rfl trivial (fun hHeld => ?_)
                    generalize w34.drew = w35 at HO130 HB hHeld ⊢
                    refine join_ (σ := Value × Value) 1 #[true, true, true, false] (fun s_ => [(9, s_.1), (10, s_.2), (2, s_.1)]) (fun s_ w' => (Kd.R (Kd.int .i32) 21 w' w.heap.size (fun _ => True) (.slice (some ⟨go3, 0, none⟩) y128.length co3) y131) ∧ (Kd.R (Kd.int .i64) 3 w' w.heap.size (fun k_ => some k_ ≠ (s_.2 : Value).ownBlock) s_.1 y132) ∧ (Kd.R (Kd.int .i64) 3 w' w.heap.size (fun k_ => some k_ ≠ (s_.1 : Value).ownBlock) s_.2 y135) ∧ (Below w.heap.size w w')) ?_ ?_
                    rotate_left
                    · intro hCont
                      refine two_ (i := 0) (j := 1) (Ni := some 9) (Nj := some 10) #[true, false, false, false] #[false, true, false, false] rfl rfl rfl rfl (by kernel_rfl) (by decide) (by decide) (fun K hK => ?_) (fun K hK => ?_)
                      · skip
                        refine Kd.R_make_step (Kd.int .i64) _ 3 (by rfl) (N := 9) rfl 54 _ _ rfl 21 rfl rfl Try.underlying54 (.int .i64 0) 8 info3 rfl (by decide) (by omega) 0 (ok := fun _ => True) (okp := fun _ => True) rfl (fun _ hk => hk) trivial (by omega) (by omega) (Below.refl _ _) (Nat.le_refl _) ?_
                        intro v133 w36 ho37 hb hg_ hnew_
                        clear hg_ hnew_
                        (first | rw [← Ny132.out] at ho37 | (simp only [Int.reduceToNat] at ho37; rw [← Ny132.out] at ho37))
                        have n0_ := Aside0.mk (Kd.R_below (by (with_reducible repeat (first | apply Kd.R_alloc | apply Kd.R_drewN | apply Kd.R_drew)); exact HO130.out) hb)
                        have n1_ := Aside0.mk (Kd.R_lower ho37 (below_size (by repeat (first | (with_reducible first | exact HB.out | apply below_alloc | apply pw_below_drewN | apply below_drew1) | exact HB.out))))
                        have n2_ := Aside0.mk (below_step (by repeat (first | (with_reducible first | exact HB.out | apply below_alloc | apply pw_below_drewN | apply below_drew1) | exact HB.out)) hb)
                        clear HO130
                        clear HB
                        have HO130 := n0_
                        have HO134 := n1_
                        have HB := n2_
                        clear n0_ n1_ n2_
                        clear hb ho37
                        refine hK.out _ _ trivial (fun hHeld => ?_)
                        clear hK K
                        refine norm_ (a' := ?_) ?_ ?_
                        rotate_left
                        · show Act.put _ (some 9) _ = _
                          simp only [Act.put, List.setIfInBounds_toArray, List.set_cons_zero, List.set_cons_succ, i64_w, i32_w]
                          rfl
                        refine pure_ (i := 2) (N := some 2) (v := ?_) (a' := ?_) #[true, false, true, false] rfl rfl (by kernel_rfl) (fun _ _ _ h => h) (Or.inl ⟨by rfl, ?_⟩) ?_ ?_
                        rotate_left
                        · intro w'
                          go_simp
                          with_reducible rfl
                        rotate_left
                        · simp only [Act.put, List.setIfInBounds_toArray, List.set_cons_zero, List.set_cons_succ, i64_w, i32_w]
                          rfl
                        refine one_ (i := 1) (N := some 10) #[true, true, true, false] rfl rfl (by kernel_rfl) (by decide) (fun K hK => ?_)
                        refine Kd.R_make_step (Kd.int .i64) _ 3 (by rfl) (N := 10) rfl 54 _ _ rfl 21 rfl rfl Try.underlying54 (.int .i64 0) 8 info3 rfl (by decide) (by omega) 0 (ok := fun _ => True) (okp := fun _ => True) rfl (fun _ hk => hk) trivial (by omega) (by omega) (Below.refl _ _) (Nat.le_refl _) ?_
                        intro v136 w38 ho39 hb hg_ hnew_
                        clear hg_ hnew_
                        (first | rw [← Ny135.out] at ho39 | (simp only [Int.reduceToNat] at ho39; rw [← Ny135.out] at ho39))
                        have n0_ := Aside0.mk (Kd.R_below (by (with_reducible repeat (first | apply Kd.R_alloc | apply Kd.R_drewN | apply Kd.R_drew)); exact HO130.out) hb)
                        have n1_ := Aside0.mk (Kd.R_elder' (by (with_reducible repeat (first | apply Kd.R_alloc | apply Kd.R_drewN | apply Kd.R_drew)); exact HO134.out) (Kd.R_base ho39) hb)
                        have n2_ := Aside0.mk (Kd.R_lower (Kd.R_new' ho39 (Kd.R_lt (by (with_reducible repeat (first | apply Kd.R_alloc | apply Kd.R_drewN | apply Kd.R_drew)); exact HO134.out))) (below_size (by repeat (first | (with_reducible first | exact HB.out | apply below_alloc | apply pw_below_drewN | apply below_drew1) | exact HB.out))))
                        have n3_ := Aside0.mk (below_step (by repeat (first | (with_reducible first | exact HB.out | apply below_alloc | apply pw_below_drewN | apply below_drew1) | exact HB.out)) hb)
                        clear HO130
                        clear HO134
                        clear HB
                        have HO130 := n0_
                        have HO134 := n1_
                        have HO137 := n2_
                        have HB := n3_
                        clear n0_ n1_ n2_ n3_
                        clear hb ho39
                        refine hK.out _ _ trivial (fun hHeld => ?_)
                        clear hK K
                        refine norm_ (a' := ?_) ?_ ?_
                        rotate_left
                        · show Act.put _ (some 10) _ = _
                          simp only [Act.put, List.setIfInBounds_toArray, List.set_cons_zero, List.set_cons_succ, i64_w, i32_w]
                          rfl
                        exact norm_ (by simp only [putAll, Act.put, List.setIfInBounds_toArray, List.set_cons_zero, List.set_cons_succ]) (hCont (v133, v136) _ ⟨(by (with_reducible repeat (first | apply Kd.R_alloc | apply Kd.R_drewN | apply Kd.R_drew)); exact HO130.out), (by (with_reducible repeat (first | apply Kd.R_alloc | apply Kd.R_drewN | apply Kd.R_drew)); exact Kd.R_mono HO134.out (fun _ hk => hk.2)), (by (with_reducible repeat (first | apply Kd.R_alloc | apply Kd.R_drewN | apply Kd.R_drew)); exact Kd.R_mono HO137.out (fun _ hk => hk.2)), (by repeat (first | (with_reducible first | exact HB.out | apply below_alloc | apply pw_below_drewN | apply below_drew1) | exact HB.out))⟩)
                      · skip
                        refine Kd.R_make_step (Kd.int .i64) _ 3 (by rfl) (N := 10) rfl 54 _ _ rfl 21 rfl rfl Try.underlying54 (.int .i64 0) 8 info3 rfl (by decide) (by omega) 0 (ok := fun _ => True) (okp := fun _ => True) rfl (fun _ hk => hk) trivial (by omega) (by omega) (Below.refl _ _) (Nat.le_refl _) ?_
                        intro v136 w36 ho37 hb hg_ hnew_
                        clear hg_ hnew_
                        (first | rw [← Ny135.out] at ho37 | (simp only [Int.reduceToNat] at ho37; rw [← Ny135.out] at ho37))
                        have n0_ := Aside0.mk (Kd.R_below (by (with_reducible repeat (first | apply Kd.R_alloc | apply Kd.R_drewN | apply Kd.R_drew)); exact HO130.out) hb)
                        have n1_ := Aside0.mk (Kd.R_lower ho37 (below_size (by repeat (first | (with_reducible first | exact HB.out | apply below_alloc | apply pw_below_drewN | apply below_drew1) | exact HB.out))))
                        have n2_ := Aside0.mk (below_step (by repeat (first | (with_reducible first | exact HB.out | apply below_alloc | apply pw_below_drewN | apply below_drew1) | exact HB.out)) hb)
                        clear HO130
                        clear HB
                        have HO130 := n0_
                        have HO137 := n1_
                        have HB := n2_
                        clear n0_ n1_ n2_
                        clear hb ho37
                        refine hK.out _ _ trivial (fun hHeld => ?_)
                        clear hK K
                        refine norm_ (a' := ?_) ?_ ?_
                        rotate_left
                        · show Act.put _ (some 10) _ = _
                          simp only [Act.put, List.setIfInBounds_toArray, List.set_cons_zero, List.set_cons_succ, i64_w, i32_w]
                          rfl
                        refine one_ (i := 0) (N := some 9) #[true, true, false, false] rfl rfl (by kernel_rfl) (by decide) (fun K hK => ?_)
                        refine Kd.R_make_step (Kd.int .i64) _ 3 (by rfl) (N := 9) rfl 54 _ _ rfl 21 rfl rfl Try.underlying54 (.int .i64 0) 8 info3 rfl (by decide) (by omega) 0 (ok := fun _ => True) (okp := fun _ => True) rfl (fun _ hk => hk) trivial (by omega) (by omega) (Below.refl _ _) (Nat.le_refl _) ?_
                        intro v133 w38 ho39 hb hg_ hnew_
                        clear hg_ hnew_
                        (first | rw [← Ny132.out] at ho39 | (simp only [Int.reduceToNat] at ho39; rw [← Ny132.out] at ho39))
                        have n0_ := Aside0.mk (Kd.R_below (by (with_reducible repeat (first | apply Kd.R_alloc | apply Kd.R_drewN | apply Kd.R_drew)); exact HO130.out) hb)
                        have n1_ := Aside0.mk (Kd.R_elder' (by (with_reducible repeat (first | apply Kd.R_alloc | apply Kd.R_drewN | apply Kd.R_drew)); exact HO137.out) (Kd.R_base ho39) hb)
                        have n2_ := Aside0.mk (Kd.R_lower (Kd.R_new' ho39 (Kd.R_lt (by (with_reducible repeat (first | apply Kd.R_alloc | apply Kd.R_drewN | apply Kd.R_drew)); exact HO137.out))) (below_size (by repeat (first | (with_reducible first | exact HB.out | apply below_alloc | apply pw_below_drewN | apply below_drew1) | exact HB.out))))
                        have n3_ := Aside0.mk (below_step (by repeat (first | (with_reducible first | exact HB.out | apply below_alloc | apply pw_below_drewN | apply below_drew1) | exact HB.out)) hb)
                        clear HO130
                        clear HO137
                        clear HB
                        have HO130 := n0_
                        have HO137 := n1_
                        have HO134 := n2_
                        have HB := n3_
                        clear n0_ n1_ n2_ n3_
                        clear hb ho39
                        refine hK.out _ _ trivial (fun hHeld => ?_)
                        clear hK K
                        refine norm_ (a' := ?_) ?_ ?_
                        rotate_left
                        · show Act.put _ (some 9) _ = _
                          simp only [Act.put, List.setIfInBounds_toArray, List.set_cons_zero, List.set_cons_succ, i64_w, i32_w]
                          rfl
                        refine pure_ (i := 2) (N := some 2) (v := ?_) (a' := ?_) #[true, true, true, false] rfl rfl (by kernel_rfl) (fun _ _ _ h => h) (Or.inl ⟨by rfl, ?_⟩) ?_ ?_
                        rotate_left
                        · intro w'
                          go_simp
                          with_reducible rfl
                        rotate_left
                        · simp only [Act.put, List.setIfInBounds_toArray, List.set_cons_zero, List.set_cons_succ, i64_w, i32_w]
                          rfl
                        exact norm_ (by simp only [putAll, Act.put, List.setIfInBounds_toArray, List.set_cons_zero, List.set_cons_succ]) (hCont (v133, v136) _ ⟨(by (with_reducible repeat (first | apply Kd.R_alloc | apply Kd.R_drewN | apply Kd.R_drew)); exact HO130.out), (by (with_reducible repeat (first | apply Kd.R_alloc | apply Kd.R_drewN | apply Kd.R_drew)); exact Kd.R_mono HO134.out (fun _ hk => hk.2)), (by (with_reducible repeat (first | apply Kd.R_alloc | apply Kd.R_drewN | apply Kd.R_drew)); exact Kd.R_mono HO137.out (fun _ hk => hk.2)), (by repeat (first | (with_reducible first | exact HB.out | apply below_alloc | apply pw_below_drewN | apply below_drew1) | exact HB.out))⟩)
                    rintro ⟨v133, v136⟩ w40 ⟨h0_, h1_, h2_, h3_⟩
                    have n0_ : Aside0 (Kd.R (Kd.int .i32) 21 w40 w.heap.size (fun _ => True) (.slice (some ⟨go3, 0, none⟩) y128.length co3) y131) := ⟨h0_⟩
                    have n1_ : Aside0 (Kd.R (Kd.int .i64) 3 w40 w.heap.size (fun k_ => some k_ ≠ (v136 : Value).ownBlock) v133 y132) := ⟨h1_⟩
                    have n2_ : Aside0 (Kd.R (Kd.int .i64) 3 w40 w.heap.size (fun k_ => some k_ ≠ (v133 : Value).ownBlock) v136 y135) := ⟨h2_⟩
                    have n3_ : Aside0 (Below w.heap.size w w40) := ⟨h3_⟩
                    clear HO130
                    clear HB
                    clear h0_ h1_ h2_ h3_
                    have HO130 := n0_
                    have HO134 := n1_
                    have HO137 := n2_
                    have HB := n3_
                    clear n0_ n1_ n2_ n3_
                    have hHeld := trivial
                    refine norm_ (a' := ?_) ?_ ?_
                    rotate_left
                    · simp only [putAll, Act.put, List.setIfInBounds_toArray, List.set_cons_zero, List.set_cons_succ]
                      rfl
                    refine pure_ (i := 3) (N := some 3) (v := ?_) (a' := ?_) #[true, true, true, true] rfl rfl (by kernel_rfl) (fun _ _ _ h => h) (Or.inl ⟨by rfl, ?_⟩) ?_ ?_
                    rotate_left
                    · intro w'
                      go_simp
                      with_reducible rfl
                    rotate_left
                    · simp only [Act.put, List.setIfInBounds_toArray, List.set_cons_zero, List.set_cons_succ, i64_w, i32_w]
                      rfl
                    refine done_ (by kernel_rfl) ?_
                    have p6 : 0 ≤ (0 : Int) := (by omega)
                    have q6 : (0 : Int) < ((y132.length : Int) : Int) := of_decide_eq_true (by first | (with_reducible assumption) | assumption)
                    have qi6 : (0 < y132.length) = True := eq_true (by omega)
                    obtain ⟨go6, co6, eo6, gb6, gl6, cl6, HG6⟩ := Kd.R_form HO134.out (by omega)
                    (first | cases eo6 | (injection eo6 with ea_ en_ ec_; (first | subst ea_ | (injection ea_ with ea_; subst ea_)); subst ec_; clear en_))
                    have GB6 := Aside0.mk gb6
                    have GG6 := Aside0.mk HG6
                    clear gb6 gl6 HG6
                    obtain ⟨hx6_0, hf6_0⟩ := Kd.R_celln 0 HO134.out (0 : Int) p6 q6
                    (try rw [show ((0 : Int)).toNat = 0 from rfl] at hx6_0)
                    (try simp only [Nat.reduceMul, Nat.zero_mul, Nat.zero_add, Nat.reduceAdd] at hx6_0)
                    (try rw [show ((0 : Int)).toNat = 0 from rfl] at hf6_0)
                    (try simp only [Nat.reduceMul, Nat.zero_mul, Nat.zero_add, Nat.reduceAdd] at hf6_0)
                    replace p6 := eq_true p6
                    replace q6 := eq_true q6
                    obtain ⟨hy41_, hz41_⟩ := Kd.R_celln 0 HO134.out (0 : Int) (by omega) (of_decide_eq_true (by first | (with_reducible assumption) | assumption))
                    (try simp only [Int.reduceToNat, Int.toNat_zero, Int.toNat_ofNat, Nat.reduceMul, Nat.zero_mul, Nat.zero_add] at hy41_ hz41_)
                    (try rw [show ((0 : Int)).toNat = 0 from rfl] at hy41_)
                    (try rw [show ((0 : Int)).toNat = 0 from rfl] at hz41_)
                    have HP41 := Kd.R_putg HO134.out (0 : Int) 5
                    try go_wp2_with (first | ((with_reducible refine gate_store (t := 3) (p := 13) rfl ?_); refine store_event (t := 3) (p := 13) (v := ?vo_w42) (w1 := (w40.setCell ⟨go6, (0 : Int).toNat, none⟩ (.int .i64 5))) ?hg ?ho ?hn ?hr ?_; (case ho => rfl); (case hg => rfl); (case hn => rfl); (case hr => first | (go_simp; done) | (go_simp; rfl)); intro w42 hw; have hg : w40.grownBy w42 (some go6) := (by rw [hw]; exact HP41.2); have hp_ : Kd.R (Kd.int .i64) 3 w42 w.heap.size (fun k_ => some k_ ≠ (v136 : Value).ownBlock) (.slice (some ⟨go6, 0, none⟩) y132.length co6) y138 := (by rw [hw, Ny138.out]; exact HP41.1); clear HP41; have n0_ := Aside0.mk (Kd.R_over' (v := (.slice (some ⟨go6, 0, none⟩) y132.length co6)) (by (with_reducible repeat (first | apply Kd.R_alloc | apply Kd.R_drewN | apply Kd.R_drew)); exact HO130.out) (Kd.R_typed HO134.out) (by decide) hg); have n1_ := Aside0.mk (hp_); have n2_ := Aside0.mk (Kd.R_after (v := (.slice (some ⟨go6, 0, none⟩) y132.length co6)) (v1 := (.slice (some ⟨go6, 0, none⟩) y132.length co6)) (ok := (fun _ => True)) (by (with_reducible repeat (first | apply Kd.R_alloc | apply Kd.R_drewN | apply Kd.R_drew)); exact Kd.R_mono HO137.out (fun _ hk => ⟨trivial, hk⟩)) hg (.inl rfl)); have n3_ := Aside0.mk ((by rw [hw]; exact below_set (HB.out) GB6.out : Below w.heap.size w w42)); clear HO130; clear HO134; clear HO137; clear HB; have HO130 := n0_; have HO134 := n1_; have HO137 := n2_; have HB := n3_; clear n0_ n1_ n2_ n3_; clear hg hw hp_; have p8 : 0 ≤ (0 : Int) := (by omega); have q8 : (0 : Int) < ((y135.length : Int) : Int) := of_decide_eq_true (by first | (with_reducible assumption) | assumption); have qi8 : (0 < y135.length) = True := eq_true (by omega); obtain ⟨go8, co8, eo8, gb8, gl8, cl8, HG8⟩ := Kd.R_form HO137.out (by omega); (first | cases eo8 | (injection eo8 with ea_ en_ ec_; (first | subst ea_ | (injection ea_ with ea_; subst ea_)); subst ec_; clear en_)); have GB8 := Aside0.mk gb8; have GG8 := Aside0.mk HG8; clear gb8 gl8 HG8; obtain ⟨hx8_0, hf8_0⟩ := Kd.R_celln 0 HO137.out (0 : Int) p8 q8; (try rw [show ((0 : Int)).toNat = 0 from rfl] at hx8_0); (try simp only [Nat.reduceMul, Nat.zero_mul, Nat.zero_add, Nat.reduceAdd] at hx8_0); (try rw [show ((0 : Int)).toNat = 0 from rfl] at hf8_0); (try simp only [Nat.reduceMul, Nat.zero_mul, Nat.zero_add, Nat.reduceAdd] at hf8_0); replace p8 := eq_true p8; replace q8 := eq_true q8; have n_ := Aside0.mk (Kd.R_mono (ok' := (fun k_ => some k_ ≠ (.slice (some ⟨go6, 0, none⟩) y132.length co6 : Value).ownBlock)) HO137.out (fun k_ hk => hk.2)); clear HO137; have HO137 := n_; clear n_; obtain ⟨hy43_, hz43_⟩ := Kd.R_celln 0 HO137.out (0 : Int) (by omega) (of_decide_eq_true (by first | (with_reducible assumption) | assumption)); (try simp only [Int.reduceToNat, Int.toNat_zero, Int.toNat_ofNat, Nat.reduceMul, Nat.zero_mul, Nat.zero_add] at hy43_ hz43_); (try rw [show ((0 : Int)).toNat = 0 from rfl] at hy43_); (try rw [show ((0 : Int)).toNat = 0 from rfl] at hz43_); have HP43 := Kd.R_putg HO137.out (0 : Int) 2) | ((with_reducible refine gate_store (t := 3) (p := 14) rfl ?_); refine store_event (t := 3) (p := 14) (v := ?vo_w44) (w1 := (w42.setCell ⟨go8, (0 : Int).toNat, none⟩ (.int .i64 2))) ?hg ?ho ?hn ?hr ?_; (case ho => rfl); (case hg => rfl); (case hn => rfl); (case hr => first | (go_simp; done) | (go_simp; rfl)); intro w44 hw; have hg : w42.grownBy w44 (some go8) := (by rw [hw]; exact HP43.2); have hp_ : Kd.R (Kd.int .i64) 3 w44 w.heap.size (fun k_ => some k_ ≠ (.slice (some ⟨go6, 0, none⟩) y132.length co6 : Value).ownBlock) (.slice (some ⟨go8, 0, none⟩) y135.length co8) y139 := (by rw [hw, Ny139.out]; exact HP43.1); clear HP43; have n0_ := Aside0.mk (Kd.R_over' (v := (.slice (some ⟨go8, 0, none⟩) y135.length co8)) (by (with_reducible repeat (first | apply Kd.R_alloc | apply Kd.R_drewN | apply Kd.R_drew)); exact HO130.out) (Kd.R_typed HO137.out) (by decide) hg); have n1_ := Aside0.mk (Kd.R_after (v := (.slice (some ⟨go8, 0, none⟩) y135.length co8)) (v1 := (.slice (some ⟨go8, 0, none⟩) y135.length co8)) (ok := (fun _ => True)) (by (with_reducible repeat (first | apply Kd.R_alloc | apply Kd.R_drewN | apply Kd.R_drew)); exact Kd.R_mono HO134.out (fun _ hk => ⟨trivial, hk⟩)) hg (.inl rfl)); have n2_ := Aside0.mk (hp_); have n3_ := Aside0.mk ((by rw [hw]; exact below_set (HB.out) GB8.out : Below w.heap.size w w44)); clear HO130; clear HO134; clear HO137; clear HB; have HO130 := n0_; have HO134 := n1_; have HO137 := n2_; have HB := n3_; clear n0_ n1_ n2_ n3_; clear hg hw hp_) | ((with_reducible refine gate_callee (f := 51) rfl ?_); refine goesL_ (some 19) rfl rfl Try.func51 (by kernel_rfl) rfl #[.slice (some ⟨go3, 0, none⟩) y131.length co3, .slice (some ⟨go6, 0, none⟩) y138.length co6, .slice (some ⟨go8, 0, none⟩) y139.length co8, .int .u32 1] rfl (by (try simp only [List.map_toArray, List.map_cons, List.map_nil]); first | done | (rw [show y131.length = y128.length from (Kd.R_reads' HO130.out).1.symm, show y138.length = y132.length from (Kd.R_reads' HO134.out).1.symm, show y139.length = y135.length from (Kd.R_reads' HO137.out).1.symm] <;> rfl) | rfl | (simp only [List.length_drop, List.length_take]; rfl)) ?_; (with_reducible refine (quant_Heard.calls k _ _ y131 _ _ y138 _ _ y139 1 t140 t141 _ ?side1 ?side2 ?side3 ?side4 ?side5 ?side6 A9.out).mono ?_); (case side1 => repeat (first | exact (Kd.R_reads' HO130.out).2.2 | (with_reducible refine Kd.C_alloc ?_ _) | (with_reducible refine Kd.C_drewN ?_ _) | (with_reducible refine Kd.C_drew ?_))); (case side2 => rw [show y131.length = y128.length from (Kd.R_reads' HO130.out).1.symm]; exact (Kd.R_reads' HO130.out).2.1); (case side3 => repeat (first | exact (Kd.R_reads' HO134.out).2.2 | (with_reducible refine Kd.C_alloc ?_ _) | (with_reducible refine Kd.C_drewN ?_ _) | (with_reducible refine Kd.C_drew ?_))); (case side4 => rw [show y138.length = y132.length from (Kd.R_reads' HO134.out).1.symm]; exact (Kd.R_reads' HO134.out).2.1); (case side5 => repeat (first | exact (Kd.R_reads' HO137.out).2.2 | (with_reducible refine Kd.C_alloc ?_ _) | (with_reducible refine Kd.C_drewN ?_ _) | (with_reducible refine Kd.C_drew ?_))); (case side6 => rw [show y139.length = y135.length from (Kd.R_reads' HO137.out).1.symm]; exact (Kd.R_reads' HO137.out).2.1); rintro e w45 ⟨v142, rfl, ho0, hb⟩; refine ⟨_, rfl, ?_⟩; have n0_ := Aside0.mk (Kd.R_elder' (by (with_reducible repeat (first | apply Kd.R_alloc | apply Kd.R_drewN | apply Kd.R_drew)); exact HO130.out) (Kd.R_base ho0) hb); have n1_ := Aside0.mk (Kd.R_below (by (with_reducible repeat (first | apply Kd.R_alloc | apply Kd.R_drewN | apply Kd.R_drew)); exact HO134.out) hb); have n2_ := Aside0.mk (Kd.R_below (by (with_reducible repeat (first | apply Kd.R_alloc | apply Kd.R_drewN | apply Kd.R_drew)); exact HO137.out) hb); have n3_ := Aside0.mk (Kd.R_lower (Kd.R_new' ho0 (Kd.R_lt (by (with_reducible repeat (first | apply Kd.R_alloc | apply Kd.R_drewN | apply Kd.R_drew)); exact HO130.out))) (below_size (by repeat (first | (with_reducible first | exact HB.out | apply below_alloc | apply pw_below_drewN | apply below_drew1) | exact HB.out)))); have n4_ := Aside0.mk (below_step (by repeat (first | (with_reducible first | exact HB.out | apply below_alloc | apply pw_below_drewN | apply below_drew1) | exact HB.out)) hb); clear HO130; clear HO134; clear HO137; clear HB; have HO130 := n0_; have HO134 := n1_; have HO137 := n2_; have HO143 := n3_; have HB := n4_; clear n0_ n1_ n2_ n3_ n4_; (try clear hb); (try clear hb2); (try clear hk); (try clear hi); (try clear ho0); obtain ⟨Ao46, co46, eo46⟩ := Kd.R_slice HO143.out; (first | subst eo46 | cases eo46); have p144 : 0 ≤ (0 : Int) := (by omega); have q144 : 0 < (t140.length : Int) := of_decide_eq_true (by first | (with_reducible assumption) | assumption); obtain ⟨ad144, e144, hx144_0⟩ := Kd.at_int (Kd.R_reads' HO143.out).2.2 0 p144 q144; cases e144; have qi144 : (0 < t140.length) = True := eq_true (by omega); (try rw [show ((0 : Int)).toNat = 0 from rfl] at hx144_0); (try rw [Addr.add_zero'] at hx144_0); replace p144 := eq_true p144; replace q144 := eq_true q144))
                    go_ret
                    exact ⟨by first | rfl | (simp [errW_none, errW_some] <;> rfl) | (simp [*, errW_none, errW_some] <;> rfl), by repeat (first | (with_reducible first | exact HB.out | apply below_alloc | apply pw_below_drewN | apply below_drew1) | exact HB.out)⟩
                · rw [if_neg c12] at H
                  exact absurd H (by simp)
              · rw [if_neg c11] at H
                have c11b0 : ((t140.length : Int) == 512) = false := beq_eq_false_iff_ne.mpr c11
                have c11b1 : ((t140.length : Int) != 512) = true := bne_iff_ne.mpr c11
                obtain rfl := Option.some.inj H
                go_enter Try.func48, Try.ntmps48
                try go_wp2_with (first | ((with_reducible refine gate_dst (N := 6) rfl ?_); (try (refine gate_guard (by rfl) ?_; dsimp only)); refine Kd.R_make (Kd.int .i32) _ 21 rfl (N := 6) rfl 86 _ _ rfl 512 rfl rfl Try.underlying86 (.int .i32 0) 4 info21 rfl (by decide) (by omega) 0 (ok := fun _ => True) (okp := fun _ => True) rfl (fun _ hk => hk) trivial (by omega) (by omega) (Below.refl _ _) (Nat.le_refl _) ?_; intro v129 w47 ho48 hb hg_ hnew_; clear hg_ hnew_; (first | rw [← Ny128.out] at ho48 | (simp only [Int.reduceToNat] at ho48; rw [← Ny128.out] at ho48)); have n0_ := Aside0.mk (Kd.R_lower ho48 (below_size (by repeat (first | (with_reducible first | exact HB.out | apply below_alloc | apply pw_below_drewN | apply below_drew1) | exact HB.out)))); have n1_ := Aside0.mk (below_step (by repeat (first | (with_reducible first | exact HB.out | apply below_alloc | apply pw_below_drewN | apply below_drew1) | exact HB.out)) hb); clear HB; have HO130 := n0_; have HB := n1_; clear n0_ n1_; clear hb ho48; have p3 : 0 ≤ (0 : Int) := (by omega); have q3 : (0 : Int) < ((y128.length : Int) : Int) := of_decide_eq_true (by first | (with_reducible assumption) | assumption); have qi3 : (0 < y128.length) = True := eq_true (by omega); obtain ⟨go3, co3, eo3, gb3, gl3, cl3, HG3⟩ := Kd.R_form HO130.out (by omega); (first | cases eo3 | (injection eo3 with ea_ en_ ec_; (first | subst ea_ | (injection ea_ with ea_; subst ea_)); subst ec_; clear en_)); have GB3 := Aside0.mk gb3; have GG3 := Aside0.mk HG3; clear gb3 gl3 HG3; obtain ⟨hx3_0, hf3_0⟩ := Kd.R_celln 0 HO130.out (0 : Int) p3 q3; (try rw [show ((0 : Int)).toNat = 0 from rfl] at hx3_0); (try simp only [Nat.reduceMul, Nat.zero_mul, Nat.zero_add, Nat.reduceAdd] at hx3_0); (try rw [show ((0 : Int)).toNat = 0 from rfl] at hf3_0); (try simp only [Nat.reduceMul, Nat.zero_mul, Nat.zero_add, Nat.reduceAdd] at hf3_0); replace p3 := eq_true p3; replace q3 := eq_true q3; obtain ⟨hy49_, hz49_⟩ := Kd.R_celln 0 HO130.out (0 : Int) (by omega) (of_decide_eq_true (by first | (with_reducible assumption) | assumption)); (try simp only [Int.reduceToNat, Int.toNat_zero, Int.toNat_ofNat, Nat.reduceMul, Nat.zero_mul, Nat.zero_add] at hy49_ hz49_); (try rw [show ((0 : Int)).toNat = 0 from rfl] at hy49_); (try rw [show ((0 : Int)).toNat = 0 from rfl] at hz49_); have HP49 := Kd.R_putg HO130.out (0 : Int) 21) | ((with_reducible refine gate_store (t := 21) (p := 8) rfl ?_); refine store_event (t := 21) (p := 8) (v := ?vo_w50) (w1 := (w47.setCell ⟨go3, (0 : Int).toNat, none⟩ (.int .i32 21))) ?hg ?ho ?hn ?hr ?_; (case ho => rfl); (case hg => rfl); (case hn => rfl); (case hr => first | (go_simp; done) | (go_simp; rfl)); intro w50 hw; have hg : w47.grownBy w50 (some go3) := (by rw [hw]; exact HP49.2); have hp_ : Kd.R (Kd.int .i32) 21 w50 w.heap.size (fun _ => True) (.slice (some ⟨go3, 0, none⟩) y128.length co3) y131 := (by rw [hw, Ny131.out]; exact HP49.1); clear HP49; have n0_ := Aside0.mk (hp_); have n1_ := Aside0.mk ((by rw [hw]; exact below_set (HB.out) GB3.out : Below w.heap.size w w50)); clear HO130; clear HB; have HO130 := n0_; have HB := n1_; clear n0_ n1_; clear hg hw hp_))
                have n0_ := Aside0.mk (Kd.R_drew HO130.out)
                have n1_ := Aside0.mk (below_drew1 HB.out)
                clear HO130
                clear HB
                have HO130 := n0_
                have HB := n1_
                clear n0_ n1_
                refine start_ (n := 4) (S := fun w' => True) (ds := []) #[false, false, false, false] (by kernel_rfl) rfl rfl trivial (fun hHeld => ?_)
                generalize w50.drew = w51 at HO130 HB hHeld ⊢
                refine join_ (σ := Value × Value) 1 #[true, true, true, false] (fun s_ => [(9, s_.1), (10, s_.2), (2, s_.1)]) (fun s_ w' => (Kd.R (Kd.int .i32) 21 w' w.heap.size (fun _ => True) (.slice (some ⟨go3, 0, none⟩) y128.length co3) y131) ∧ (Kd.R (Kd.int .i64) 3 w' w.heap.size (fun k_ => some k_ ≠ (s_.2 : Value).ownBlock) s_.1 y132) ∧ (Kd.R (Kd.int .i64) 3 w' w.heap.size (fun k_ => some k_ ≠ (s_.1 : Value).ownBlock) s_.2 y135) ∧ (Below w.heap.size w w')) ?_ ?_
                rotate_left
                · intro hCont
                  refine two_ (i := 0) (j := 1) (Ni := some 9) (Nj := some 10) #[true, false, false, false] #[false, true, false, false] rfl rfl rfl rfl (by kernel_rfl) (by decide) (by decide) (fun K hK => ?_) (fun K hK => ?_)
                  · skip
                    refine Kd.R_make_step (Kd.int .i64) _ 3 (by rfl) (N := 9) rfl 54 _ _ rfl 21 rfl rfl Try.underlying54 (.int .i64 0) 8 info3 rfl (by decide) (by omega) 0 (ok := fun _ => True) (okp := fun _ => True) rfl (fun _ hk => hk) trivial (by omega) (by omega) (Below.refl _ _) (Nat.le_refl _) ?_
                    intro v133 w52 ho53 hb hg_ hnew_
                    clear hg_ hnew_
                    (first | rw [← Ny132.out] at ho53 | (simp only [Int.reduceToNat] at ho53; rw [← Ny132.out] at ho53))
                    have n0_ := Aside0.mk (Kd.R_below (by (with_reducible repeat (first | apply Kd.R_alloc | apply Kd.R_drewN | apply Kd.R_drew)); exact HO130.out) hb)
                    have n1_ := Aside0.mk (Kd.R_lower ho53 (below_size (by repeat (first | (with_reducible first | exact HB.out | apply below_alloc | apply pw_below_drewN | apply below_drew1) | exact HB.out))))
                    have n2_ := Aside0.mk (below_step (by repeat (first | (with_reducible first | exact HB.out | apply below_alloc | apply pw_below_drewN | apply below_drew1) | exact HB.out)) hb)
                    clear HO130
                    clear HB
                    have HO130 := n0_
                    have HO134 := n1_
                    have HB := n2_
                    clear n0_ n1_ n2_
                    clear hb ho53
                    refine hK.out _ _ trivial (fun hHeld => ?_)
                    clear hK K
                    refine norm_ (a' := ?_) ?_ ?_
                    rotate_left
                    · show Act.put _ (some 9) _ = _
                      simp only [Act.put, List.setIfInBounds_toArray, List.set_cons_zero, List.set_cons_succ, i64_w, i32_w]
                      rfl
                    refine pure_ (i := 2) (N := some 2) (v := ?_) (a' := ?_) #[true, false, true, false] rfl rfl (by kernel_rfl) (fun _ _ _ h => h) (Or.inl ⟨by rfl, ?_⟩) ?_ ?_
                    rotate_left
                    · intro w'
                      go_simp
                      with_reducible rfl
                    rotate_left
                    · simp only [Act.put, List.setIfInBounds_toArray, List.set_cons_zero, List.set_cons_succ, i64_w, i32_w]
                      rfl
                    refine one_ (i := 1) (N := some 10) #[true, true, true, false] rfl rfl (by kernel_rfl) (by decide) (fun K hK => ?_)
                    refine Kd.R_make_step (Kd.int .i64) _ 3 (by rfl) (N := 10) rfl 54 _ _ rfl 21 rfl rfl Try.underlying54 (.int .i64 0) 8 info3 rfl (by decide) (by omega) 0 (ok := fun _ => True) (okp := fun _ => True) rfl (fun _ hk => hk) trivial (by omega) (by omega) (Below.refl _ _) (Nat.le_refl _) ?_
                    intro v136 w54 ho55 hb hg_ hnew_
                    clear hg_ hnew_
                    (first | rw [← Ny135.out] at ho55 | (simp only [Int.reduceToNat] at ho55; rw [← Ny135.out] at ho55))
                    have n0_ := Aside0.mk (Kd.R_below (by (with_reducible repeat (first | apply Kd.R_alloc | apply Kd.R_drewN | apply Kd.R_drew)); exact HO130.out) hb)
                    have n1_ := Aside0.mk (Kd.R_elder' (by (with_reducible repeat (first | apply Kd.R_alloc | apply Kd.R_drewN | apply Kd.R_drew)); exact HO134.out) (Kd.R_base ho55) hb)
                    have n2_ := Aside0.mk (Kd.R_lower (Kd.R_new' ho55 (Kd.R_lt (by (with_reducible repeat (first | apply Kd.R_alloc | apply Kd.R_drewN | apply Kd.R_drew)); exact HO134.out))) (below_size (by repeat (first | (with_reducible first | exact HB.out | apply below_alloc | apply pw_below_drewN | apply below_drew1) | exact HB.out))))
                    have n3_ := Aside0.mk (below_step (by repeat (first | (with_reducible first | exact HB.out | apply below_alloc | apply pw_below_drewN | apply below_drew1) | exact HB.out)) hb)
                    clear HO130
                    clear HO134
                    clear HB
                    have HO130 := n0_
                    have HO134 := n1_
                    have HO137 := n2_
                    have HB := n3_
                    clear n0_ n1_ n2_ n3_
                    clear hb ho55
                    refine hK.out _ _ trivial (fun hHeld => ?_)
                    clear hK K
                    refine norm_ (a' := ?_) ?_ ?_
                    rotate_left
                    · show Act.put _ (some 10) _ = _
                      simp only [Act.put, List.setIfInBounds_toArray, List.set_cons_zero, List.set_cons_succ, i64_w, i32_w]
                      rfl
                    exact norm_ (by simp only [putAll, Act.put, List.setIfInBounds_toArray, List.set_cons_zero, List.set_cons_succ]) (hCont (v133, v136) _ ⟨(by (with_reducible repeat (first | apply Kd.R_alloc | apply Kd.R_drewN | apply Kd.R_drew)); exact HO130.out), (by (with_reducible repeat (first | apply Kd.R_alloc | apply Kd.R_drewN | apply Kd.R_drew)); exact Kd.R_mono HO134.out (fun _ hk => hk.2)), (by (with_reducible repeat (first | apply Kd.R_alloc | apply Kd.R_drewN | apply Kd.R_drew)); exact Kd.R_mono HO137.out (fun _ hk => hk.2)), (by repeat (first | (with_reducible first | exact HB.out | apply below_alloc | apply pw_below_drewN | apply below_drew1) | exact HB.out))⟩)
                  · skip
                    refine Kd.R_make_step (Kd.int .i64) _ 3 (by rfl) (N := 10) rfl 54 _ _ rfl 21 rfl rfl Try.underlying54 (.int .i64 0) 8 info3 rfl (by decide) (by omega) 0 (ok := fun _ => True) (okp := fun _ => True) rfl (fun _ hk => hk) trivial (by omega) (by omega) (Below.refl _ _) (Nat.le_refl _) ?_
                    intro v136 w52 ho53 hb hg_ hnew_
                    clear hg_ hnew_
                    (first | rw [← Ny135.out] at ho53 | (simp only [Int.reduceToNat] at ho53; rw [← Ny135.out] at ho53))
                    have n0_ := Aside0.mk (Kd.R_below (by (with_reducible repeat (first | apply Kd.R_alloc | apply Kd.R_drewN | apply Kd.R_drew)); exact HO130.out) hb)
                    have n1_ := Aside0.mk (Kd.R_lower ho53 (below_size (by repeat (first | (with_reducible first | exact HB.out | apply below_alloc | apply pw_below_drewN | apply below_drew1) | exact HB.out))))
                    have n2_ := Aside0.mk (below_step (by repeat (first | (with_reducible first | exact HB.out | apply below_alloc | apply pw_below_drewN | apply below_drew1) | exact HB.out)) hb)
                    clear HO130
                    clear HB
                    have HO130 := n0_
                    have HO137 := n1_
                    have HB := n2_
                    clear n0_ n1_ n2_
                    clear hb ho53
                    refine hK.out _ _ trivial (fun hHeld => ?_)
                    clear hK K
                    refine norm_ (a' := ?_) ?_ ?_
                    rotate_left
                    · show Act.put _ (some 10) _ = _
                      simp only [Act.put, List.setIfInBounds_toArray, List.set_cons_zero, List.set_cons_succ, i64_w, i32_w]
                      rfl
                    refine one_ (i := 0) (N := some 9) #[true, true, false, false] rfl rfl (by kernel_rfl) (by decide) (fun K hK => ?_)
                    refine Kd.R_make_step (Kd.int .i64) _ 3 (by rfl) (N := 9) rfl 54 _ _ rfl 21 rfl rfl Try.underlying54 (.int .i64 0) 8 info3 rfl (by decide) (by omega) 0 (ok := fun _ => True) (okp := fun _ => True) rfl (fun _ hk => hk) trivial (by omega) (by omega) (Below.refl _ _) (Nat.le_refl _) ?_
                    intro v133 w54 ho55 hb hg_ hnew_
                    clear hg_ hnew_
                    (first | rw [← Ny132.out] at ho55 | (simp only [Int.reduceToNat] at ho55; rw [← Ny132.out] at ho55))
                    have n0_ := Aside0.mk (Kd.R_below (by (with_reducible repeat (first | apply Kd.R_alloc | apply Kd.R_drewN | apply Kd.R_drew)); exact HO130.out) hb)
                    have n1_ := Aside0.mk (Kd.R_elder' (by (with_reducible repeat (first | apply Kd.R_alloc | apply Kd.R_drewN | apply Kd.R_drew)); exact HO137.out) (Kd.R_base ho55) hb)
                    have n2_ := Aside0.mk (Kd.R_lower (Kd.R_new' ho55 (Kd.R_lt (by (with_reducible repeat (first | apply Kd.R_alloc | apply Kd.R_drewN | apply Kd.R_drew)); exact HO137.out))) (below_size (by repeat (first | (with_reducible first | exact HB.out | apply below_alloc | apply pw_below_drewN | apply below_drew1) | exact HB.out))))
                    have n3_ := Aside0.mk (below_step (by repeat (first | (with_reducible first | exact HB.out | apply below_alloc | apply pw_below_drewN | apply below_drew1) | exact HB.out)) hb)
                    clear HO130
                    clear HO137
                    clear HB
                    have HO130 := n0_
                    have HO137 := n1_
                    have HO134 := n2_
                    have HB := n3_
                    clear n0_ n1_ n2_ n3_
                    clear hb ho55
                    refine hK.out _ _ trivial (fun hHeld => ?_)
                    clear hK K
                    refine norm_ (a' := ?_) ?_ ?_
                    rotate_left
                    · show Act.put _ (some 9) _ = _
                      simp only [Act.put, List.setIfInBounds_toArray, List.set_cons_zero, List.set_cons_succ, i64_w, i32_w]
                      rfl
                    refine pure_ (i := 2) (N := some 2) (v := ?_) (a' := ?_) #[true, true, true, false] rfl rfl (by kernel_rfl) (fun _ _ _ h => h) (Or.inl ⟨by rfl, ?_⟩) ?_ ?_
                    rotate_left
                    · intro w'
                      go_simp
                      with_reducible rfl
                    rotate_left
                    · simp only [Act.put, List.setIfInBounds_toArray, List.set_cons_zero, List.set_cons_succ, i64_w, i32_w]
                      rfl
                    exact norm_ (by simp only [putAll, Act.put, List.setIfInBounds_toArray, List.set_cons_zero, List.set_cons_succ]) (hCont (v133, v136) _ ⟨(by (with_reducible repeat (first | apply Kd.R_alloc | apply Kd.R_drewN | apply Kd.R_drew)); exact HO130.out), (by (with_reducible repeat (first | apply Kd.R_alloc | apply Kd.R_drewN | apply Kd.R_drew)); exact Kd.R_mono HO134.out (fun _ hk => hk.2)), (by (with_reducible repeat (first | apply Kd.R_alloc | apply Kd.R_drewN | apply Kd.R_drew)); exact Kd.R_mono HO137.out (fun _ hk => hk.2)), (by repeat (first | (with_reducible first | exact HB.out | apply below_alloc | apply pw_below_drewN | apply below_drew1) | exact HB.out))⟩)
                rintro ⟨v133, v136⟩ w56 ⟨h0_, h1_, h2_, h3_⟩
                have n0_ : Aside0 (Kd.R (Kd.int .i32) 21 w56 w.heap.size (fun _ => True) (.slice (some ⟨go3, 0, none⟩) y128.length co3) y131) := ⟨h0_⟩
                have n1_ : Aside0 (Kd.R (Kd.int .i64) 3 w56 w.heap.size (fun k_ => some k_ ≠ (v136 : Value).ownBlock) v133 y132) := ⟨h1_⟩
                have n2_ : Aside0 (Kd.R (Kd.int .i64) 3 w56 w.heap.size (fun k_ => some k_ ≠ (v133 : Value).ownBlock) v136 y135) := ⟨h2_⟩
                have n3_ : Aside0 (Below w.heap.size w w56) := ⟨h3_⟩
                clear HO130
                clear HB
                clear h0_ h1_ h2_ h3_
                have HO130 := n0_
                have HO134 := n1_
                have HO137 := n2_
                have HB := n3_
                clear n0_ n1_ n2_ n3_
                have hHeld := trivial
                refine norm_ (a' := ?_) ?_ ?_
                rotate_left
                · simp only [putAll, Act.put, List.setIfInBounds_toArray, List.set_cons_zero, List.set_cons_succ]
                  rfl
                refine pure_ (i := 3) (N := some 3) (v := ?_) (a' := ?_) #[true, true, true, true] rfl rfl (by kernel_rfl) (fun _ _ _ h => h) (Or.inl ⟨by rfl, ?_⟩) ?_ ?_
                rotate_left
                · intro w'
                  go_simp
                  with_reducible rfl
                rotate_left
                · simp only [Act.put, List.setIfInBounds_toArray, List.set_cons_zero, List.set_cons_succ, i64_w, i32_w]
                  rfl
                refine done_ (by kernel_rfl) ?_
                have p6 : 0 ≤ (0 : Int) := (by omega)
                have q6 : (0 : Int) < ((y132.length : Int) : Int) := of_decide_eq_true (by first | (with_reducible assumption) | assumption)
                have qi6 : (0 < y132.length) = True := eq_true (by omega)
                obtain ⟨go6, co6, eo6, gb6, gl6, cl6, HG6⟩ := Kd.R_form HO134.out (by omega)
                (first | cases eo6 | (injection eo6 with ea_ en_ ec_; (first | subst ea_ | (injection ea_ with ea_; subst ea_)); subst ec_; clear en_))
                have GB6 := Aside0.mk gb6
                have GG6 := Aside0.mk HG6
                clear gb6 gl6 HG6
                obtain ⟨hx6_0, hf6_0⟩ := Kd.R_celln 0 HO134.out (0 : Int) p6 q6
                (try rw [show ((0 : Int)).toNat = 0 from rfl] at hx6_0)
                (try simp only [Nat.reduceMul, Nat.zero_mul, Nat.zero_add, Nat.reduceAdd] at hx6_0)
                (try rw [show ((0 : Int)).toNat = 0 from rfl] at hf6_0)
                (try simp only [Nat.reduceMul, Nat.zero_mul, Nat.zero_add, Nat.reduceAdd] at hf6_0)
                replace p6 := eq_true p6
                replace q6 := eq_true q6
                obtain ⟨hy57_, hz57_⟩ := Kd.R_celln 0 HO134.out (0 : Int) (by omega) (of_decide_eq_true (by first | (with_reducible assumption) | assumption))
                (try simp only [Int.reduceToNat, Int.toNat_zero, Int.toNat_ofNat, Nat.reduceMul, Nat.zero_mul, Nat.zero_add] at hy57_ hz57_)
                (try rw [show ((0 : Int)).toNat = 0 from rfl] at hy57_)
                (try rw [show ((0 : Int)).toNat = 0 from rfl] at hz57_)
                have HP57 := Kd.R_putg HO134.out (0 : Int) 5
                try go_wp2_with (first | ((with_reducible refine gate_store (t := 3) (p := 13) rfl ?_); refine store_event (t := 3) (p := 13) (v := ?vo_w58) (w1 := (w56.setCell ⟨go6, (0 : Int).toNat, none⟩ (.int .i64 5))) ?hg ?ho ?hn ?hr ?_; (case ho => rfl); (case hg => rfl); (case hn => rfl); (case hr => first | (go_simp; done) | (go_simp; rfl)); intro w58 hw; have hg : w56.grownBy w58 (some go6) := (by rw [hw]; exact HP57.2); have hp_ : Kd.R (Kd.int .i64) 3 w58 w.heap.size (fun k_ => some k_ ≠ (v136 : Value).ownBlock) (.slice (some ⟨go6, 0, none⟩) y132.length co6) y138 := (by rw [hw, Ny138.out]; exact HP57.1); clear HP57; have n0_ := Aside0.mk (Kd.R_over' (v := (.slice (some ⟨go6, 0, none⟩) y132.length co6)) (by (with_reducible repeat (first | apply Kd.R_alloc | apply Kd.R_drewN | apply Kd.R_drew)); exact HO130.out) (Kd.R_typed HO134.out) (by decide) hg); have n1_ := Aside0.mk (hp_); have n2_ := Aside0.mk (Kd.R_after (v := (.slice (some ⟨go6, 0, none⟩) y132.length co6)) (v1 := (.slice (some ⟨go6, 0, none⟩) y132.length co6)) (ok := (fun _ => True)) (by (with_reducible repeat (first | apply Kd.R_alloc | apply Kd.R_drewN | apply Kd.R_drew)); exact Kd.R_mono HO137.out (fun _ hk => ⟨trivial, hk⟩)) hg (.inl rfl)); have n3_ := Aside0.mk ((by rw [hw]; exact below_set (HB.out) GB6.out : Below w.heap.size w w58)); clear HO130; clear HO134; clear HO137; clear HB; have HO130 := n0_; have HO134 := n1_; have HO137 := n2_; have HB := n3_; clear n0_ n1_ n2_ n3_; clear hg hw hp_; have p8 : 0 ≤ (0 : Int) := (by omega); have q8 : (0 : Int) < ((y135.length : Int) : Int) := of_decide_eq_true (by first | (with_reducible assumption) | assumption); have qi8 : (0 < y135.length) = True := eq_true (by omega); obtain ⟨go8, co8, eo8, gb8, gl8, cl8, HG8⟩ := Kd.R_form HO137.out (by omega); (first | cases eo8 | (injection eo8 with ea_ en_ ec_; (first | subst ea_ | (injection ea_ with ea_; subst ea_)); subst ec_; clear en_)); have GB8 := Aside0.mk gb8; have GG8 := Aside0.mk HG8; clear gb8 gl8 HG8; obtain ⟨hx8_0, hf8_0⟩ := Kd.R_celln 0 HO137.out (0 : Int) p8 q8; (try rw [show ((0 : Int)).toNat = 0 from rfl] at hx8_0); (try simp only [Nat.reduceMul, Nat.zero_mul, Nat.zero_add, Nat.reduceAdd] at hx8_0); (try rw [show ((0 : Int)).toNat = 0 from rfl] at hf8_0); (try simp only [Nat.reduceMul, Nat.zero_mul, Nat.zero_add, Nat.reduceAdd] at hf8_0); replace p8 := eq_true p8; replace q8 := eq_true q8; have n_ := Aside0.mk (Kd.R_mono (ok' := (fun k_ => some k_ ≠ (.slice (some ⟨go6, 0, none⟩) y132.length co6 : Value).ownBlock)) HO137.out (fun k_ hk => hk.2)); clear HO137; have HO137 := n_; clear n_; obtain ⟨hy59_, hz59_⟩ := Kd.R_celln 0 HO137.out (0 : Int) (by omega) (of_decide_eq_true (by first | (with_reducible assumption) | assumption)); (try simp only [Int.reduceToNat, Int.toNat_zero, Int.toNat_ofNat, Nat.reduceMul, Nat.zero_mul, Nat.zero_add] at hy59_ hz59_); (try rw [show ((0 : Int)).toNat = 0 from rfl] at hy59_); (try rw [show ((0 : Int)).toNat = 0 from rfl] at hz59_); have HP59 := Kd.R_putg HO137.out (0 : Int) 2) | ((with_reducible refine gate_store (t := 3) (p := 14) rfl ?_); refine store_event (t := 3) (p := 14) (v := ?vo_w60) (w1 := (w58.setCell ⟨go8, (0 : Int).toNat, none⟩ (.int .i64 2))) ?hg ?ho ?hn ?hr ?_; (case ho => rfl); (case hg => rfl); (case hn => rfl); (case hr => first | (go_simp; done) | (go_simp; rfl)); intro w60 hw; have hg : w58.grownBy w60 (some go8) := (by rw [hw]; exact HP59.2); have hp_ : Kd.R (Kd.int .i64) 3 w60 w.heap.size (fun k_ => some k_ ≠ (.slice (some ⟨go6, 0, none⟩) y132.length co6 : Value).ownBlock) (.slice (some ⟨go8, 0, none⟩) y135.length co8) y139 := (by rw [hw, Ny139.out]; exact HP59.1); clear HP59; have n0_ := Aside0.mk (Kd.R_over' (v := (.slice (some ⟨go8, 0, none⟩) y135.length co8)) (by (with_reducible repeat (first | apply Kd.R_alloc | apply Kd.R_drewN | apply Kd.R_drew)); exact HO130.out) (Kd.R_typed HO137.out) (by decide) hg); have n1_ := Aside0.mk (Kd.R_after (v := (.slice (some ⟨go8, 0, none⟩) y135.length co8)) (v1 := (.slice (some ⟨go8, 0, none⟩) y135.length co8)) (ok := (fun _ => True)) (by (with_reducible repeat (first | apply Kd.R_alloc | apply Kd.R_drewN | apply Kd.R_drew)); exact Kd.R_mono HO134.out (fun _ hk => ⟨trivial, hk⟩)) hg (.inl rfl)); have n2_ := Aside0.mk (hp_); have n3_ := Aside0.mk ((by rw [hw]; exact below_set (HB.out) GB8.out : Below w.heap.size w w60)); clear HO130; clear HO134; clear HO137; clear HB; have HO130 := n0_; have HO134 := n1_; have HO137 := n2_; have HB := n3_; clear n0_ n1_ n2_ n3_; clear hg hw hp_) | ((with_reducible refine gate_callee (f := 51) rfl ?_); refine goesL_ (some 19) rfl rfl Try.func51 (by kernel_rfl) rfl #[.slice (some ⟨go3, 0, none⟩) y131.length co3, .slice (some ⟨go6, 0, none⟩) y138.length co6, .slice (some ⟨go8, 0, none⟩) y139.length co8, .int .u32 1] rfl (by (try simp only [List.map_toArray, List.map_cons, List.map_nil]); first | done | (rw [show y131.length = y128.length from (Kd.R_reads' HO130.out).1.symm, show y138.length = y132.length from (Kd.R_reads' HO134.out).1.symm, show y139.length = y135.length from (Kd.R_reads' HO137.out).1.symm] <;> rfl) | rfl | (simp only [List.length_drop, List.length_take]; rfl)) ?_; (with_reducible refine (quant_Heard.calls k _ _ y131 _ _ y138 _ _ y139 1 t140 t141 _ ?side1 ?side2 ?side3 ?side4 ?side5 ?side6 A9.out).mono ?_); (case side1 => repeat (first | exact (Kd.R_reads' HO130.out).2.2 | (with_reducible refine Kd.C_alloc ?_ _) | (with_reducible refine Kd.C_drewN ?_ _) | (with_reducible refine Kd.C_drew ?_))); (case side2 => rw [show y131.length = y128.length from (Kd.R_reads' HO130.out).1.symm]; exact (Kd.R_reads' HO130.out).2.1); (case side3 => repeat (first | exact (Kd.R_reads' HO134.out).2.2 | (with_reducible refine Kd.C_alloc ?_ _) | (with_reducible refine Kd.C_drewN ?_ _) | (with_reducible refine Kd.C_drew ?_))); (case side4 => rw [show y138.length = y132.length from (Kd.R_reads' HO134.out).1.symm]; exact (Kd.R_reads' HO134.out).2.1); (case side5 => repeat (first | exact (Kd.R_reads' HO137.out).2.2 | (with_reducible refine Kd.C_alloc ?_ _) | (with_reducible refine Kd.C_drewN ?_ _) | (with_reducible refine Kd.C_drew ?_))); (case side6 => rw [show y139.length = y135.length from (Kd.R_reads' HO137.out).1.symm]; exact (Kd.R_reads' HO137.out).2.1); rintro e w61 ⟨v142, rfl, ho0, hb⟩; refine ⟨_, rfl, ?_⟩; have n0_ := Aside0.mk (Kd.R_elder' (by (with_reducible repeat (first | apply Kd.R_alloc | apply Kd.R_drewN | apply Kd.R_drew)); exact HO130.out) (Kd.R_base ho0) hb); have n1_ := Aside0.mk (Kd.R_below (by (with_reducible repeat (first | apply Kd.R_alloc | apply Kd.R_drewN | apply Kd.R_drew)); exact HO134.out) hb); have n2_ := Aside0.mk (Kd.R_below (by (with_reducible repeat (first | apply Kd.R_alloc | apply Kd.R_drewN | apply Kd.R_drew)); exact HO137.out) hb); have n3_ := Aside0.mk (Kd.R_lower (Kd.R_new' ho0 (Kd.R_lt (by (with_reducible repeat (first | apply Kd.R_alloc | apply Kd.R_drewN | apply Kd.R_drew)); exact HO130.out))) (below_size (by repeat (first | (with_reducible first | exact HB.out | apply below_alloc | apply pw_below_drewN | apply below_drew1) | exact HB.out)))); have n4_ := Aside0.mk (below_step (by repeat (first | (with_reducible first | exact HB.out | apply below_alloc | apply pw_below_drewN | apply below_drew1) | exact HB.out)) hb); clear HO130; clear HO134; clear HO137; clear HB; have HO130 := n0_; have HO134 := n1_; have HO137 := n2_; have HO143 := n3_; have HB := n4_; clear n0_ n1_ n2_ n3_ n4_; (try clear hb); (try clear hb2); (try clear hk); (try clear hi); (try clear ho0); obtain ⟨Ao62, co62, eo62⟩ := Kd.R_slice HO143.out; subst eo62))
                go_ret
                exact ⟨by first | rfl | (simp [errW_none, errW_some] <;> rfl) | (simp [*, errW_none, errW_some] <;> rfl), by repeat (first | (with_reducible first | exact HB.out | apply below_alloc | apply pw_below_drewN | apply below_drew1) | exact HB.out)⟩
            · rw [if_neg c10] at H
              have c10b0 : (t141 == 0) = false := beq_eq_false_iff_ne.mpr c10
              have c10b1 : (t141 != 0) = true := bne_iff_ne.mpr c10
              obtain rfl := Option.some.inj H
              go_enter Try.func48, Try.ntmps48
              try go_wp2_with (first | ((with_reducible refine gate_dst (N := 6) rfl ?_); (try (refine gate_guard (by rfl) ?_; dsimp only)); refine Kd.R_make (Kd.int .i32) _ 21 rfl (N := 6) rfl 86 _ _ rfl 512 rfl rfl Try.underlying86 (.int .i32 0) 4 info21 rfl (by decide) (by omega) 0 (ok := fun _ => True) (okp := fun _ => True) rfl (fun _ hk => hk) trivial (by omega) (by omega) (Below.refl _ _) (Nat.le_refl _) ?_; intro v129 w63 ho64 hb hg_ hnew_; clear hg_ hnew_; (first | rw [← Ny128.out] at ho64 | (simp only [Int.reduceToNat] at ho64; rw [← Ny128.out] at ho64)); have n0_ := Aside0.mk (Kd.R_lower ho64 (below_size (by repeat (first | (with_reducible first | exact HB.out | apply below_alloc | apply pw_below_drewN | apply below_drew1) | exact HB.out)))); have n1_ := Aside0.mk (below_step (by repeat (first | (with_reducible first | exact HB.out | apply below_alloc | apply pw_below_drewN | apply below_drew1) | exact HB.out)) hb); clear HB; have HO130 := n0_; have HB := n1_; clear n0_ n1_; clear hb ho64; have p3 : 0 ≤ (0 : Int) := (by omega); have q3 : (0 : Int) < ((y128.length : Int) : Int) := of_decide_eq_true (by first | (with_reducible assumption) | assumption); have qi3 : (0 < y128.length) = True := eq_true (by omega); obtain ⟨go3, co3, eo3, gb3, gl3, cl3, HG3⟩ := Kd.R_form HO130.out (by omega); (first | cases eo3 | (injection eo3 with ea_ en_ ec_; (first | subst ea_ | (injection ea_ with ea_; subst ea_)); subst ec_; clear en_)); have GB3 := Aside0.mk gb3; have GG3 := Aside0.mk HG3; clear gb3 gl3 HG3; obtain ⟨hx3_0, hf3_0⟩ := Kd.R_celln 0 HO130.out (0 : Int) p3 q3; (try rw [show ((0 : Int)).toNat = 0 from rfl] at hx3_0); (try simp only [Nat.reduceMul, Nat.zero_mul, Nat.zero_add, Nat.reduceAdd] at hx3_0); (try rw [show ((0 : Int)).toNat = 0 from rfl] at hf3_0); (try simp only [Nat.reduceMul, Nat.zero_mul, Nat.zero_add, Nat.reduceAdd] at hf3_0); replace p3 := eq_true p3; replace q3 := eq_true q3; obtain ⟨hy65_, hz65_⟩ := Kd.R_celln 0 HO130.out (0 : Int) (by omega) (of_decide_eq_true (by first | (with_reducible assumption) | assumption)); (try simp only [Int.reduceToNat, Int.toNat_zero, Int.toNat_ofNat, Nat.reduceMul, Nat.zero_mul, Nat.zero_add] at hy65_ hz65_); (try rw [show ((0 : Int)).toNat = 0 from rfl] at hy65_); (try rw [show ((0 : Int)).toNat = 0 from rfl] at hz65_); have HP65 := Kd.R_putg HO130.out (0 : Int) 21) | ((with_reducible refine gate_store (t := 21) (p := 8) rfl ?_); refine store_event (t := 21) (p := 8) (v := ?vo_w66) (w1 := (w63.setCell ⟨go3, (0 : Int).toNat, none⟩ (.int .i32 21))) ?hg ?ho ?hn ?hr ?_; (case ho => rfl); (case hg => rfl); (case hn => rfl); (case hr => first | (go_simp; done) | (go_simp; rfl)); intro w66 hw; have hg : w63.grownBy w66 (some go3) := (by rw [hw]; exact HP65.2); have hp_ : Kd.R (Kd.int .i32) 21 w66 w.heap.size (fun _ => True) (.slice (some ⟨go3, 0, none⟩) y128.length co3) y131 := (by rw [hw, Ny131.out]; exact HP65.1); clear HP65; have n0_ := Aside0.mk (hp_); have n1_ := Aside0.mk ((by rw [hw]; exact below_set (HB.out) GB3.out : Below w.heap.size w w66)); clear HO130; clear HB; have HO130 := n0_; have HB := n1_; clear n0_ n1_; clear hg hw hp_))
              have n0_ := Aside0.mk (Kd.R_drew HO130.out)
              have n1_ := Aside0.mk (below_drew1 HB.out)
              clear HO130
              clear HB
              have HO130 := n0_
              have HB := n1_
              clear n0_ n1_
              refine start_ (n := 4) (S := fun w' => True) (ds := []) #[false, false, false, false] (by kernel_rfl) rfl rfl trivial (fun hHeld => ?_)
              generalize w66.drew = w67 at HO130 HB hHeld ⊢
              refine join_ (σ := Value × Value) 1 #[true, true, true, false] (fun s_ => [(9, s_.1), (10, s_.2), (2, s_.1)]) (fun s_ w' => (Kd.R (Kd.int .i32) 21 w' w.heap.size (fun _ => True) (.slice (some ⟨go3, 0, none⟩) y128.length co3) y131) ∧ (Kd.R (Kd.int .i64) 3 w' w.heap.size (fun k_ => some k_ ≠ (s_.2 : Value).ownBlock) s_.1 y132) ∧ (Kd.R (Kd.int .i64) 3 w' w.heap.size (fun k_ => some k_ ≠ (s_.1 : Value).ownBlock) s_.2 y135) ∧ (Below w.heap.size w w')) ?_ ?_
              rotate_left
              · intro hCont
                refine two_ (i := 0) (j := 1) (Ni := some 9) (Nj := some 10) #[true, false, false, false] #[false, true, false, false] rfl rfl rfl rfl (by kernel_rfl) (by decide) (by decide) (fun K hK => ?_) (fun K hK => ?_)
                · skip
                  refine Kd.R_make_step (Kd.int .i64) _ 3 (by rfl) (N := 9) rfl 54 _ _ rfl 21 rfl rfl Try.underlying54 (.int .i64 0) 8 info3 rfl (by decide) (by omega) 0 (ok := fun _ => True) (okp := fun _ => True) rfl (fun _ hk => hk) trivial (by omega) (by omega) (Below.refl _ _) (Nat.le_refl _) ?_
                  intro v133 w68 ho69 hb hg_ hnew_
                  clear hg_ hnew_
                  (first | rw [← Ny132.out] at ho69 | (simp only [Int.reduceToNat] at ho69; rw [← Ny132.out] at ho69))
                  have n0_ := Aside0.mk (Kd.R_below (by (with_reducible repeat (first | apply Kd.R_alloc | apply Kd.R_drewN | apply Kd.R_drew)); exact HO130.out) hb)
                  have n1_ := Aside0.mk (Kd.R_lower ho69 (below_size (by repeat (first | (with_reducible first | exact HB.out | apply below_alloc | apply pw_below_drewN | apply below_drew1) | exact HB.out))))
                  have n2_ := Aside0.mk (below_step (by repeat (first | (with_reducible first | exact HB.out | apply below_alloc | apply pw_below_drewN | apply below_drew1) | exact HB.out)) hb)
                  clear HO130
                  clear HB
                  have HO130 := n0_
                  have HO134 := n1_
                  have HB := n2_
                  clear n0_ n1_ n2_
                  clear hb ho69
                  refine hK.out _ _ trivial (fun hHeld => ?_)
                  clear hK K
                  refine norm_ (a' := ?_) ?_ ?_
                  rotate_left
                  · show Act.put _ (some 9) _ = _
                    simp only [Act.put, List.setIfInBounds_toArray, List.set_cons_zero, List.set_cons_succ, i64_w, i32_w]
                    rfl
                  refine pure_ (i := 2) (N := some 2) (v := ?_) (a' := ?_) #[true, false, true, false] rfl rfl (by kernel_rfl) (fun _ _ _ h => h) (Or.inl ⟨by rfl, ?_⟩) ?_ ?_
                  rotate_left
                  · intro w'
                    go_simp
                    with_reducible rfl
                  rotate_left
                  · simp only [Act.put, List.setIfInBounds_toArray, List.set_cons_zero, List.set_cons_succ, i64_w, i32_w]
                    rfl
                  refine one_ (i := 1) (N := some 10) #[true, true, true, false] rfl rfl (by kernel_rfl) (by decide) (fun K hK => ?_)
                  refine Kd.R_make_step (Kd.int .i64) _ 3 (by rfl) (N := 10) rfl 54 _ _ rfl 21 rfl rfl Try.underlying54 (.int .i64 0) 8 info3 rfl (by decide) (by omega) 0 (ok := fun _ => True) (okp := fun _ => True) rfl (fun _ hk => hk) trivial (by omega) (by omega) (Below.refl _ _) (Nat.le_refl _) ?_
                  intro v136 w70 ho71 hb hg_ hnew_
                  clear hg_ hnew_
                  (first | rw [← Ny135.out] at ho71 | (simp only [Int.reduceToNat] at ho71; rw [← Ny135.out] at ho71))
                  have n0_ := Aside0.mk (Kd.R_below (by (with_reducible repeat (first | apply Kd.R_alloc | apply Kd.R_drewN | apply Kd.R_drew)); exact HO130.out) hb)
                  have n1_ := Aside0.mk (Kd.R_elder' (by (with_reducible repeat (first | apply Kd.R_alloc | apply Kd.R_drewN | apply Kd.R_drew)); exact HO134.out) (Kd.R_base ho71) hb)
                  have n2_ := Aside0.mk (Kd.R_lower (Kd.R_new' ho71 (Kd.R_lt (by (with_reducible repeat (first | apply Kd.R_alloc | apply Kd.R_drewN | apply Kd.R_drew)); exact HO134.out))) (below_size (by repeat (first | (with_reducible first | exact HB.out | apply below_alloc | apply pw_below_drewN | apply below_drew1) | exact HB.out))))
                  have n3_ := Aside0.mk (below_step (by repeat (first | (with_reducible first | exact HB.out | apply below_alloc | apply pw_below_drewN | apply below_drew1) | exact HB.out)) hb)
                  clear HO130
                  clear HO134
                  clear HB
                  have HO130 := n0_
                  have HO134 := n1_
                  have HO137 := n2_
                  have HB := n3_
                  clear n0_ n1_ n2_ n3_
                  clear hb ho71
                  refine hK.out _ _ trivial (fun hHeld => ?_)
                  clear hK K
                  refine norm_ (a' := ?_) ?_ ?_
                  rotate_left
                  · show Act.put _ (some 10) _ = _
                    simp only [Act.put, List.setIfInBounds_toArray, List.set_cons_zero, List.set_cons_succ, i64_w, i32_w]
                    rfl
                  exact norm_ (by simp only [putAll, Act.put, List.setIfInBounds_toArray, List.set_cons_zero, List.set_cons_succ]) (hCont (v133, v136) _ ⟨(by (with_reducible repeat (first | apply Kd.R_alloc | apply Kd.R_drewN | apply Kd.R_drew)); exact HO130.out), (by (with_reducible repeat (first | apply Kd.R_alloc | apply Kd.R_drewN | apply Kd.R_drew)); exact Kd.R_mono HO134.out (fun _ hk => hk.2)), (by (with_reducible repeat (first | apply Kd.R_alloc | apply Kd.R_drewN | apply Kd.R_drew)); exact Kd.R_mono HO137.out (fun _ hk => hk.2)), (by repeat (first | (with_reducible first | exact HB.out | apply below_alloc | apply pw_below_drewN | apply below_drew1) | exact HB.out))⟩)
                · skip
                  refine Kd.R_make_step (Kd.int .i64) _ 3 (by rfl) (N := 10) rfl 54 _ _ rfl 21 rfl rfl Try.underlying54 (.int .i64 0) 8 info3 rfl (by decide) (by omega) 0 (ok := fun _ => True) (okp := fun _ => True) rfl (fun _ hk => hk) trivial (by omega) (by omega) (Below.refl _ _) (Nat.le_refl _) ?_
                  intro v136 w68 ho69 hb hg_ hnew_
                  clear hg_ hnew_
                  (first | rw [← Ny135.out] at ho69 | (simp only [Int.reduceToNat] at ho69; rw [← Ny135.out] at ho69))
                  have n0_ := Aside0.mk (Kd.R_below (by (with_reducible repeat (first | apply Kd.R_alloc | apply Kd.R_drewN | apply Kd.R_drew)); exact HO130.out) hb)
                  have n1_ := Aside0.mk (Kd.R_lower ho69 (below_size (by repeat (first | (with_reducible first | exact HB.out | apply below_alloc | apply pw_below_drewN | apply below_drew1) | exact HB.out))))
                  have n2_ := Aside0.mk (below_step (by repeat (first | (with_reducible first | exact HB.out | apply below_alloc | apply pw_below_drewN | apply below_drew1) | exact HB.out)) hb)
                  clear HO130
                  clear HB
                  have HO130 := n0_
                  have HO137 := n1_
                  have HB := n2_
                  clear n0_ n1_ n2_
                  clear hb ho69
                  refine hK.out _ _ trivial (fun hHeld => ?_)
                  clear hK K
                  refine norm_ (a' := ?_) ?_ ?_
                  rotate_left
                  · show Act.put _ (some 10) _ = _
                    simp only [Act.put, List.setIfInBounds_toArray, List.set_cons_zero, List.set_cons_succ, i64_w, i32_w]
                    rfl
                  refine one_ (i := 0) (N := some 9) #[true, true, false, false] rfl rfl (by kernel_rfl) (by decide) (fun K hK => ?_)
                  refine Kd.R_make_step (Kd.int .i64) _ 3 (by rfl) (N := 9) rfl 54 _ _ rfl 21 rfl rfl Try.underlying54 (.int .i64 0) 8 info3 rfl (by decide) (by omega) 0 (ok := fun _ => True) (okp := fun _ => True) rfl (fun _ hk => hk) trivial (by omega) (by omega) (Below.refl _ _) (Nat.le_refl _) ?_
                  intro v133 w70 ho71 hb hg_ hnew_
                  clear hg_ hnew_
                  (first | rw [← Ny132.out] at ho71 | (simp only [Int.reduceToNat] at ho71; rw [← Ny132.out] at ho71))
                  have n0_ := Aside0.mk (Kd.R_below (by (with_reducible repeat (first | apply Kd.R_alloc | apply Kd.R_drewN | apply Kd.R_drew)); exact HO130.out) hb)
                  have n1_ := Aside0.mk (Kd.R_elder' (by (with_reducible repeat (first | apply Kd.R_alloc | apply Kd.R_drewN | apply Kd.R_drew)); exact HO137.out) (Kd.R_base ho71) hb)
                  have n2_ := Aside0.mk (Kd.R_lower (Kd.R_new' ho71 (Kd.R_lt (by (with_reducible repeat (first | apply Kd.R_alloc | apply Kd.R_drewN | apply Kd.R_drew)); exact HO137.out))) (below_size (by repeat (first | (with_reducible first | exact HB.out | apply below_alloc | apply pw_below_drewN | apply below_drew1) | exact HB.out))))
                  have n3_ := Aside0.mk (below_step (by repeat (first | (with_reducible first | exact HB.out | apply below_alloc | apply pw_below_drewN | apply below_drew1) | exact HB.out)) hb)
                  clear HO130
                  clear HO137
                  clear HB
                  have HO130 := n0_
                  have HO137 := n1_
                  have HO134 := n2_
                  have HB := n3_
                  clear n0_ n1_ n2_ n3_
                  clear hb ho71
                  refine hK.out _ _ trivial (fun hHeld => ?_)
                  clear hK K
                  refine norm_ (a' := ?_) ?_ ?_
                  rotate_left
                  · show Act.put _ (some 9) _ = _
                    simp only [Act.put, List.setIfInBounds_toArray, List.set_cons_zero, List.set_cons_succ, i64_w, i32_w]
                    rfl
                  refine pure_ (i := 2) (N := some 2) (v := ?_) (a' := ?_) #[true, true, true, false] rfl rfl (by kernel_rfl) (fun _ _ _ h => h) (Or.inl ⟨by rfl, ?_⟩) ?_ ?_
                  rotate_left
                  · intro w'
                    go_simp
                    with_reducible rfl
                  rotate_left
                  · simp only [Act.put, List.setIfInBounds_toArray, List.set_cons_zero, List.set_cons_succ, i64_w, i32_w]
                    rfl
                  exact norm_ (by simp only [putAll, Act.put, List.setIfInBounds_toArray, List.set_cons_zero, List.set_cons_succ]) (hCont (v133, v136) _ ⟨(by (with_reducible repeat (first | apply Kd.R_alloc | apply Kd.R_drewN | apply Kd.R_drew)); exact HO130.out), (by (with_reducible repeat (first | apply Kd.R_alloc | apply Kd.R_drewN | apply Kd.R_drew)); exact Kd.R_mono HO134.out (fun _ hk => hk.2)), (by (with_reducible repeat (first | apply Kd.R_alloc | apply Kd.R_drewN | apply Kd.R_drew)); exact Kd.R_mono HO137.out (fun _ hk => hk.2)), (by repeat (first | (with_reducible first | exact HB.out | apply below_alloc | apply pw_below_drewN | apply below_drew1) | exact HB.out))⟩)
              rintro ⟨v133, v136⟩ w72 ⟨h0_, h1_, h2_, h3_⟩
              have n0_ : Aside0 (Kd.R (Kd.int .i32) 21 w72 w.heap.size (fun _ => True) (.slice (some ⟨go3, 0, none⟩) y128.length co3) y131) := ⟨h0_⟩
              have n1_ : Aside0 (Kd.R (Kd.int .i64) 3 w72 w.heap.size (fun k_ => some k_ ≠ (v136 : Value).ownBlock) v133 y132) := ⟨h1_⟩
              have n2_ : Aside0 (Kd.R (Kd.int .i64) 3 w72 w.heap.size (fun k_ => some k_ ≠ (v133 : Value).ownBlock) v136 y135) := ⟨h2_⟩
              have n3_ : Aside0 (Below w.heap.size w w72) := ⟨h3_⟩
              clear HO130
              clear HB
              clear h0_ h1_ h2_ h3_
              have HO130 := n0_
              have HO134 := n1_
              have HO137 := n2_
              have HB := n3_
              clear n0_ n1_ n2_ n3_
              have hHeld := trivial
              refine norm_ (a' := ?_) ?_ ?_
              rotate_left
              · simp only [putAll, Act.put, List.setIfInBounds_toArray, List.set_cons_zero, List.set_cons_succ]
                rfl
              refine pure_ (i := 3) (N := some 3) (v := ?_) (a' := ?_) #[true, true, true, true] rfl rfl (by kernel_rfl) (fun _ _ _ h => h) (Or.inl ⟨by rfl, ?_⟩) ?_ ?_
              rotate_left
              · intro w'
                go_simp
                with_reducible rfl
              rotate_left
              · simp only [Act.put, List.setIfInBounds_toArray, List.set_cons_zero, List.set_cons_succ, i64_w, i32_w]
                rfl
              refine done_ (by kernel_rfl) ?_
              have p6 : 0 ≤ (0 : Int) := (by omega)
              have q6 : (0 : Int) < ((y132.length : Int) : Int) := of_decide_eq_true (by first | (with_reducible assumption) | assumption)
              have qi6 : (0 < y132.length) = True := eq_true (by omega)
              obtain ⟨go6, co6, eo6, gb6, gl6, cl6, HG6⟩ := Kd.R_form HO134.out (by omega)
              (first | cases eo6 | (injection eo6 with ea_ en_ ec_; (first | subst ea_ | (injection ea_ with ea_; subst ea_)); subst ec_; clear en_))
              have GB6 := Aside0.mk gb6
              have GG6 := Aside0.mk HG6
              clear gb6 gl6 HG6
              obtain ⟨hx6_0, hf6_0⟩ := Kd.R_celln 0 HO134.out (0 : Int) p6 q6
              (try rw [show ((0 : Int)).toNat = 0 from rfl] at hx6_0)
              (try simp only [Nat.reduceMul, Nat.zero_mul, Nat.zero_add, Nat.reduceAdd] at hx6_0)
              (try rw [show ((0 : Int)).toNat = 0 from rfl] at hf6_0)
              (try simp only [Nat.reduceMul, Nat.zero_mul, Nat.zero_add, Nat.reduceAdd] at hf6_0)
              replace p6 := eq_true p6
              replace q6 := eq_true q6
              obtain ⟨hy73_, hz73_⟩ := Kd.R_celln 0 HO134.out (0 : Int) (by omega) (of_decide_eq_true (by first | (with_reducible assumption) | assumption))
              (try simp only [Int.reduceToNat, Int.toNat_zero, Int.toNat_ofNat, Nat.reduceMul, Nat.zero_mul, Nat.zero_add] at hy73_ hz73_)
              (try rw [show ((0 : Int)).toNat = 0 from rfl] at hy73_)
              (try rw [show ((0 : Int)).toNat = 0 from rfl] at hz73_)
              have HP73 := Kd.R_putg HO134.out (0 : Int) 5
              try go_wp2_with (first | ((with_reducible refine gate_store (t := 3) (p := 13) rfl ?_); refine store_event (t := 3) (p := 13) (v := ?vo_w74) (w1 := (w72.setCell ⟨go6, (0 : Int).toNat, none⟩ (.int .i64 5))) ?hg ?ho ?hn ?hr ?_; (case ho => rfl); (case hg => rfl); (case hn => rfl); (case hr => first | (go_simp; done) | (go_simp; rfl)); intro w74 hw; have hg : w72.grownBy w74 (some go6) := (by rw [hw]; exact HP73.2); have hp_ : Kd.R (Kd.int .i64) 3 w74 w.heap.size (fun k_ => some k_ ≠ (v136 : Value).ownBlock) (.slice (some ⟨go6, 0, none⟩) y132.length co6) y138 := (by rw [hw, Ny138.out]; exact HP73.1); clear HP73; have n0_ := Aside0.mk (Kd.R_over' (v := (.slice (some ⟨go6, 0, none⟩) y132.length co6)) (by (with_reducible repeat (first | apply Kd.R_alloc | apply Kd.R_drewN | apply Kd.R_drew)); exact HO130.out) (Kd.R_typed HO134.out) (by decide) hg); have n1_ := Aside0.mk (hp_); have n2_ := Aside0.mk (Kd.R_after (v := (.slice (some ⟨go6, 0, none⟩) y132.length co6)) (v1 := (.slice (some ⟨go6, 0, none⟩) y132.length co6)) (ok := (fun _ => True)) (by (with_reducible repeat (first | apply Kd.R_alloc | apply Kd.R_drewN | apply Kd.R_drew)); exact Kd.R_mono HO137.out (fun _ hk => ⟨trivial, hk⟩)) hg (.inl rfl)); have n3_ := Aside0.mk ((by rw [hw]; exact below_set (HB.out) GB6.out : Below w.heap.size w w74)); clear HO130; clear HO134; clear HO137; clear HB; have HO130 := n0_; have HO134 := n1_; have HO137 := n2_; have HB := n3_; clear n0_ n1_ n2_ n3_; clear hg hw hp_; have p8 : 0 ≤ (0 : Int) := (by omega); have q8 : (0 : Int) < ((y135.length : Int) : Int) := of_decide_eq_true (by first | (with_reducible assumption) | assumption); have qi8 : (0 < y135.length) = True := eq_true (by omega); obtain ⟨go8, co8, eo8, gb8, gl8, cl8, HG8⟩ := Kd.R_form HO137.out (by omega); (first | cases eo8 | (injection eo8 with ea_ en_ ec_; (first | subst ea_ | (injection ea_ with ea_; subst ea_)); subst ec_; clear en_)); have GB8 := Aside0.mk gb8; have GG8 := Aside0.mk HG8; clear gb8 gl8 HG8; obtain ⟨hx8_0, hf8_0⟩ := Kd.R_celln 0 HO137.out (0 : Int) p8 q8; (try rw [show ((0 : Int)).toNat = 0 from rfl] at hx8_0); (try simp only [Nat.reduceMul, Nat.zero_mul, Nat.zero_add, Nat.reduceAdd] at hx8_0); (try rw [show ((0 : Int)).toNat = 0 from rfl] at hf8_0); (try simp only [Nat.reduceMul, Nat.zero_mul, Nat.zero_add, Nat.reduceAdd] at hf8_0); replace p8 := eq_true p8; replace q8 := eq_true q8; have n_ := Aside0.mk (Kd.R_mono (ok' := (fun k_ => some k_ ≠ (.slice (some ⟨go6, 0, none⟩) y132.length co6 : Value).ownBlock)) HO137.out (fun k_ hk => hk.2)); clear HO137; have HO137 := n_; clear n_; obtain ⟨hy75_, hz75_⟩ := Kd.R_celln 0 HO137.out (0 : Int) (by omega) (of_decide_eq_true (by first | (with_reducible assumption) | assumption)); (try simp only [Int.reduceToNat, Int.toNat_zero, Int.toNat_ofNat, Nat.reduceMul, Nat.zero_mul, Nat.zero_add] at hy75_ hz75_); (try rw [show ((0 : Int)).toNat = 0 from rfl] at hy75_); (try rw [show ((0 : Int)).toNat = 0 from rfl] at hz75_); have HP75 := Kd.R_putg HO137.out (0 : Int) 2) | ((with_reducible refine gate_store (t := 3) (p := 14) rfl ?_); refine store_event (t := 3) (p := 14) (v := ?vo_w76) (w1 := (w74.setCell ⟨go8, (0 : Int).toNat, none⟩ (.int .i64 2))) ?hg ?ho ?hn ?hr ?_; (case ho => rfl); (case hg => rfl); (case hn => rfl); (case hr => first | (go_simp; done) | (go_simp; rfl)); intro w76 hw; have hg : w74.grownBy w76 (some go8) := (by rw [hw]; exact HP75.2); have hp_ : Kd.R (Kd.int .i64) 3 w76 w.heap.size (fun k_ => some k_ ≠ (.slice (some ⟨go6, 0, none⟩) y132.length co6 : Value).ownBlock) (.slice (some ⟨go8, 0, none⟩) y135.length co8) y139 := (by rw [hw, Ny139.out]; exact HP75.1); clear HP75; have n0_ := Aside0.mk (Kd.R_over' (v := (.slice (some ⟨go8, 0, none⟩) y135.length co8)) (by (with_reducible repeat (first | apply Kd.R_alloc | apply Kd.R_drewN | apply Kd.R_drew)); exact HO130.out) (Kd.R_typed HO137.out) (by decide) hg); have n1_ := Aside0.mk (Kd.R_after (v := (.slice (some ⟨go8, 0, none⟩) y135.length co8)) (v1 := (.slice (some ⟨go8, 0, none⟩) y135.length co8)) (ok := (fun _ => True)) (by (with_reducible repeat (first | apply Kd.R_alloc | apply Kd.R_drewN | apply Kd.R_drew)); exact Kd.R_mono HO134.out (fun _ hk => ⟨trivial, hk⟩)) hg (.inl rfl)); have n2_ := Aside0.mk (hp_); have n3_ := Aside0.mk ((by rw [hw]; exact below_set (HB.out) GB8.out : Below w.heap.size w w76)); clear HO130; clear HO134; clear HO137; clear HB; have HO130 := n0_; have HO134 := n1_; have HO137 := n2_; have HB := n3_; clear n0_ n1_ n2_ n3_; clear hg hw hp_) | ((with_reducible refine gate_callee (f := 51) rfl ?_); refine goesL_ (some 19) rfl rfl Try.func51 (by kernel_rfl) rfl #[.slice (some ⟨go3, 0, none⟩) y131.length co3, .slice (some ⟨go6, 0, none⟩) y138.length co6, .slice (some ⟨go8, 0, none⟩) y139.length co8, .int .u32 1] rfl (by (try simp only [List.map_toArray, List.map_cons, List.map_nil]); first | done | (rw [show y131.length = y128.length from (Kd.R_reads' HO130.out).1.symm, show y138.length = y132.length from (Kd.R_reads' HO134.out).1.symm, show y139.length = y135.length from (Kd.R_reads' HO137.out).1.symm] <;> rfl) | rfl | (simp only [List.length_drop, List.length_take]; rfl)) ?_; (with_reducible refine (quant_Heard.calls k _ _ y131 _ _ y138 _ _ y139 1 t140 t141 _ ?side1 ?side2 ?side3 ?side4 ?side5 ?side6 A9.out).mono ?_); (case side1 => repeat (first | exact (Kd.R_reads' HO130.out).2.2 | (with_reducible refine Kd.C_alloc ?_ _) | (with_reducible refine Kd.C_drewN ?_ _) | (with_reducible refine Kd.C_drew ?_))); (case side2 => rw [show y131.length = y128.length from (Kd.R_reads' HO130.out).1.symm]; exact (Kd.R_reads' HO130.out).2.1); (case side3 => repeat (first | exact (Kd.R_reads' HO134.out).2.2 | (with_reducible refine Kd.C_alloc ?_ _) | (with_reducible refine Kd.C_drewN ?_ _) | (with_reducible refine Kd.C_drew ?_))); (case side4 => rw [show y138.length = y132.length from (Kd.R_reads' HO134.out).1.symm]; exact (Kd.R_reads' HO134.out).2.1); (case side5 => repeat (first | exact (Kd.R_reads' HO137.out).2.2 | (with_reducible refine Kd.C_alloc ?_ _) | (with_reducible refine Kd.C_drewN ?_ _) | (with_reducible refine Kd.C_drew ?_))); (case side6 => rw [show y139.length = y135.length from (Kd.R_reads' HO137.out).1.symm]; exact (Kd.R_reads' HO137.out).2.1); rintro e w77 ⟨v142, rfl, ho0, hb⟩; refine ⟨_, rfl, ?_⟩; have n0_ := Aside0.mk (Kd.R_elder' (by (with_reducible repeat (first | apply Kd.R_alloc | apply Kd.R_drewN | apply Kd.R_drew)); exact HO130.out) (Kd.R_base ho0) hb); have n1_ := Aside0.mk (Kd.R_below (by (with_reducible repeat (first | apply Kd.R_alloc | apply Kd.R_drewN | apply Kd.R_drew)); exact HO134.out) hb); have n2_ := Aside0.mk (Kd.R_below (by (with_reducible repeat (first | apply Kd.R_alloc | apply Kd.R_drewN | apply Kd.R_drew)); exact HO137.out) hb); have n3_ := Aside0.mk (Kd.R_lower (Kd.R_new' ho0 (Kd.R_lt (by (with_reducible repeat (first | apply Kd.R_alloc | apply Kd.R_drewN | apply Kd.R_drew)); exact HO130.out))) (below_size (by repeat (first | (with_reducible first | exact HB.out | apply below_alloc | apply pw_below_drewN | apply below_drew1) | exact HB.out)))); have n4_ := Aside0.mk (below_step (by repeat (first | (with_reducible first | exact HB.out | apply below_alloc | apply pw_below_drewN | apply below_drew1) | exact HB.out)) hb); clear HO130; clear HO134; clear HO137; clear HB; have HO130 := n0_; have HO134 := n1_; have HO137 := n2_; have HO143 := n3_; have HB := n4_; clear n0_ n1_ n2_ n3_ n4_; (try clear hb); (try clear hb2); (try clear hk); (try clear hi); (try clear ho0)))
              go_ret
              exact ⟨by first | rfl | (simp [errW_none, errW_some] <;> rfl) | (simp [*, errW_none, errW_some] <;> rfl), by repeat (first | (with_reducible first | exact HB.out | apply below_alloc | apply pw_below_drewN | apply below_drew1) | exact HB.out)⟩
          · rw [if_neg c7] at H
            exact absurd H (by simp)
        · rw [if_neg c5] at H
          exact absurd H (by simp)
      · rw [if_neg c4] at H
        exact absurd H (by simp)
    · rw [if_neg c2] at H
      exact absurd H (by simp)
  · rw [if_neg c1] at H
    exact absurd H (by simp)

end Go.Proofs.Ytlbjoflmfboeeaa.PQuantNear
