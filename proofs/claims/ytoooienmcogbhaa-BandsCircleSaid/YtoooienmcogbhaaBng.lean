/-
  BandsCircle: the law's own walk; no condition but that the arguments are ints.
-/
import Derived.Test.YtoooienmcogbhaaBne
import Derived.Test.YtoooienmcogbhaaBnl
import Derived.Test.YtoooienmcogbhaaBng0
set_option linter.unusedVariables false
set_option linter.unusedSimpArgs false
namespace Go.Proofs.Ytoooienmcogbhaa.Bnd
open Go.RowKit Go.Proofs.Ytoooienmcogbhaa Go.Proofs.YtoooienmcogbhaaW.PrintWords Go.Proofs.YtoooienmcogbhaaW.PrintLast Go.Proofs.YtoooienmcogbhaaW.PrintMore Go.Proofs.Ytoooienmcogbhaa.PBandsCircle
attribute [local irreducible] qt QT sel cv cb cosv risev
theorem Circ.drewN {w : World} {g : Nat} (h : Circ w g) (n : Nat) : Circ (w.drewN n) g := h
theorem quarter_row (w : World) : Calls Try.prog 42 #[] w fun e w' => ∃ g cap, e = .returned (.slice (some ⟨g, 0, none⟩) QT.length cap) ∧ RowI w' 2 .i64 g cap QT ∧ Below w.heap.size w w' := by
  obtain ⟨k, hk⟩ := ref_quarter
  refine (sidebandref04_Quarter.calls k QT w hk).mono ?_
  rintro e w' ⟨v, rfl, hR, hb⟩
  obtain ⟨g, cap, rfl, _, hr⟩ := rowI_of_R hR (by rw [QT_len]; omega)
  exact ⟨g, cap, rfl, hr, hb⟩
theorem rise_bd (x : Int) : -16777216 ≤ risev x ∧ risev x ≤ 16777216 := by
  have bc := (rules (1024 - 4 * (2 * x + 1))).2.2.2.1
  unfold risev
  split
  · omega
  · split
    · omega
    · exact bc
set_option maxHeartbeats 1000000 in
theorem circle_walk (i a : Int) (W : World) (wf : (Lit.int .i64 i).wf = true) (wf2 : (Lit.int .i64 a).wf = true) : Calls Try.prog 9 #[.int .i64 i, .int .i64 a] W fun e w' => e = .returned (.bool true) ∧ Below W.heap.size W w' := by
  clear wf wf2
  have bc : ∀ u, -16777216 ≤ cosv u ∧ cosv u ≤ 16777216 := fun u => (rules u).2.2.2.1
  have hbc := Lib.hid bc
  clear bc
  go_enter Try.func9, Try.ntmps9
  go_wp2_with (first
    | (go_at_call 40; refine (lives_calls _).mono ?_; rintro e w1 ⟨rfl, hb1⟩)
    | (go_at_call 41; refine (New_calls _).mono ?_; rintro e w2 ⟨g, hg, rfl, hc, hb2⟩)
    | (go_at_call 42; refine (quarter_row _).mono ?_; rintro e w3 ⟨q, cap, rfl, hq, hb3⟩))
  have hc3 := Blk.below hc hb3 hc.lt
  have hB : Below W.heap.size W w3 := (hb1.trans (hb2.mono hb1.size)).trans (hb3.mono (Nat.le_trans hb1.size hb2.size))
  clear hc hb2 hb3 hb1
  go_loopw [13] (fun v wr => ∃ n : Nat, n ≤ 4096 ∧ v = .int .i64 (n : Int) ∧ Hid (Circ wr g) ∧ Hid (RowI wr 2 .i64 q cap QT) ∧ Hid (Below W.heap.size W wr)) (fun v _ => 4096 - (intOf v).toNat)
  case atStart => exact ⟨0, by omega, rfl, hc3, hq, hB⟩
  case round =>
    clear hq hc3 hB
    obtain ⟨n, hn, rfl, hc, hq, hb⟩ := hrel
    replace hc := hc.out
    replace hq := hq.out
    replace hb := hb.out
    by_cases hlt : n < 4096
    · have i0 : (n : Int) < 4096 := by omega
      have b1 := hbc.out (n : Int)
      go_wp2_with (first
    | (go_at_call 43; with_reducible (first | refine (Cos_some hc _).mono ?_ | refine (Cos_some (Circ.drewN hc _) _).mono ?_); rintro e w9 ⟨rfl, rfl⟩)
    | (go_at_call 43; with_reducible refine (Cos_none _ _).mono ?_; rintro e w9 ⟨rfl, rfl⟩)
    | (go_at_call 45; with_reducible (first | refine (Rise_some hc _).mono ?_ | refine (Rise_some (Circ.drewN hc _) _).mono ?_); rintro e w9 ⟨rfl, rfl⟩)
    | (go_at_call 45; with_reducible refine (Rise_none _ _).mono ?_; rintro e w9 ⟨rfl, rfl⟩)
    | (go_at_call 44; with_reducible (first | refine (sidebandref04_Cos.calls 1 _ _ QT _ _ _ (C_of_rowI hq) hq.len.1 (ref_cos _)).mono ?_ | refine (sidebandref04_Cos.calls 1 _ _ QT _ _ _ (C_of_rowI (RowI.drewN hq _)) hq.len.1 (ref_cos _)).mono ?_); rintro e w9 ⟨rfl, ⟨nd, rfl⟩⟩)
    | (go_at_call 46; with_reducible (first | refine (sidebandref04_Rise.calls 1 _ _ QT _ _ _ (C_of_rowI hq) hq.len.1 (ref_rise _)).mono ?_ | refine (sidebandref04_Rise.calls 1 _ _ QT _ _ _ (C_of_rowI (RowI.drewN hq _)) hq.len.1 (ref_rise _)).mono ?_); rintro e w9 ⟨rfl, ⟨nd, rfl⟩⟩))
      refine ⟨⟨n + 1, by omega, by push_cast; rfl, Circ.drewN hc _, RowI.drewN hq _, pw_below_drewN hb _⟩, by simp [intOf]; omega⟩
    · obtain rfl : n = 4096 := by omega
      have b1 := hbc.out i
      have b2 := rise_bd a
      have b3 := rise_bd (Int.tmod a 200)
      go_wp2_with (first
    | (go_at_call 43; with_reducible (first | refine (Cos_some hc _).mono ?_ | refine (Cos_some (Circ.drewN hc _) _).mono ?_); rintro e w9 ⟨rfl, rfl⟩)
    | (go_at_call 43; with_reducible refine (Cos_none _ _).mono ?_; rintro e w9 ⟨rfl, rfl⟩)
    | (go_at_call 45; with_reducible (first | refine (Rise_some hc _).mono ?_ | refine (Rise_some (Circ.drewN hc _) _).mono ?_); rintro e w9 ⟨rfl, rfl⟩)
    | (go_at_call 45; with_reducible refine (Rise_none _ _).mono ?_; rintro e w9 ⟨rfl, rfl⟩)
    | (go_at_call 44; with_reducible (first | refine (sidebandref04_Cos.calls 1 _ _ QT _ _ _ (C_of_rowI hq) hq.len.1 (ref_cos _)).mono ?_ | refine (sidebandref04_Cos.calls 1 _ _ QT _ _ _ (C_of_rowI (RowI.drewN hq _)) hq.len.1 (ref_cos _)).mono ?_); rintro e w9 ⟨rfl, ⟨nd, rfl⟩⟩)
    | (go_at_call 46; with_reducible (first | refine (sidebandref04_Rise.calls 1 _ _ QT _ _ _ (C_of_rowI hq) hq.len.1 (ref_rise _)).mono ?_ | refine (sidebandref04_Rise.calls 1 _ _ QT _ _ _ (C_of_rowI (RowI.drewN hq _)) hq.len.1 (ref_rise _)).mono ?_); rintro e w9 ⟨rfl, ⟨nd, rfl⟩⟩))
      go_ret
      exact ⟨rfl, pw_below_drewN hb _⟩
end Go.Proofs.Ytoooienmcogbhaa.Bnd
