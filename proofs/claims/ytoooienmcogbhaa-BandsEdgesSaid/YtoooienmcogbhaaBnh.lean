/-
  BandsEdges: the law's own walk; no condition but that the argument is an int.
-/
import Derived.Test.YtoooienmcogbhaaBnl
import Derived.Test.YtoooienmcogbhaaBnf
set_option linter.unusedVariables false
set_option linter.unusedSimpArgs false
namespace Go.Proofs.Ytoooienmcogbhaa.Bnd
open Go.RowKit Go.Proofs.Ytoooienmcogbhaa Go.Proofs.YtoooienmcogbhaaW.PrintWords Go.Proofs.YtoooienmcogbhaaW.PrintLast Go.Proofs.YtoooienmcogbhaaW.PrintMore
attribute [local irreducible] EL el
set_option maxHeartbeats 2000000 in
theorem edges_walk (i : Int) (W : World) (wf : (Lit.int .i64 i).wf = true) : Calls Try.prog 11 #[.int .i64 i] W fun e w' => e = .returned (.bool true) ∧ Below W.heap.size W w' := by
  clear wf
  go_enter Try.func11, Try.ntmps11
  go_wp2_with (first
    | (go_at_call 40; refine (lives_calls _).mono ?_; rintro e w1 ⟨rfl, hb1⟩)
    | (go_at_call 47; refine (Edges_row _).mono ?_; rintro e w2 ⟨g, cap, rfl, hg, hr, hb2⟩)
    | (go_at_call 48; refine (refEdges_row _).mono ?_; rintro e w3 ⟨q, cap2, rfl, hq, hr2, hb3⟩))
  have hr0 := RowI.below hr hb3 hr.lt
  have hB : Below W.heap.size W w3 := (hb1.trans (hb2.mono hb1.size)).trans (hb3.mono (Nat.le_trans hb1.size hb2.size))
  have hs1 := hb1.size
  have hs2 := hb2.size
  clear hr hb1 hb2 hb3
  go_loopw [23] (fun v wr => ∃ n : Nat, n ≤ 22 ∧ v = .int .i64 (n : Int) ∧ Hid (RowI wr 3 .i64 g cap EL) ∧ Hid (RowI wr 3 .i64 q cap2 EL) ∧ Hid (Below W.heap.size W wr)) (fun v _ => 22 - (intOf v).toNat)
  case atStart => exact ⟨0, by omega, rfl, hr0, hr2, hB⟩
  case round =>
    clear hr0 hr2 hB
    obtain ⟨n, hn, rfl, hr, hr2, hb⟩ := hrel
    by_cases hlt : n < 22
    · have c := hr.out.cell (i := n) (by rw [EL_len]; omega)
      rw [EL_get _ (by rw [EL_len]; omega)] at c
      have c2 := hr2.out.cell (i := n) (by rw [EL_len]; omega)
      rw [EL_get _ (by rw [EL_len]; omega)] at c2
      go_wp2_with fail
      go_still (by kernel_rfl)
      go_wp2_with fail
      refine ⟨⟨n + 1, by omega, by push_cast; rfl, RowI.drewN hr.out _, RowI.drewN hr2.out _, pw_below_drewN hb.out _⟩, by simp [intOf]; omega⟩
    · obtain rfl : n = 22 := by omega
      obtain ⟨w4, hw4⟩ : ∃ w4, w4 = wr := ⟨_, rfl⟩
      subst hw4
      have hs3 := hb.out.size
      rw [show ((22 : Nat) : Int) = 22 from rfl]
      go_wp2_with fail
      go_loopw [41] (fun v wr => ∃ j : Nat, j ≤ 2 ∧ v = .int .i64 (j : Int) ∧ Hid (Blk wr w4.heap.size 3 #[.int .i64 i, .int .i64 (i.tmod 600)]) ∧ Hid (RowI wr 3 .i64 q cap2 EL) ∧ Hid (Below W.heap.size W wr)) (fun v _ => 2 - (intOf v).toNat)
      case atStart => exact ⟨0, by omega, rfl, Blk.new _ _ _, RowI.alloc hr2.out _, Below.alloc hb.out (by omega) _⟩
      case round =>
        have hq1 := hr2.out.lt
        clear hr hr2 hb
        obtain ⟨j, hj, rfl, hl, hr, hb⟩ := hrel
        have hs4 := hb.out.size
        by_cases hlt : j < 2
        · obtain ⟨x, hx⟩ : ∃ x, wr.cell? ⟨w4.heap.size, j, none⟩ = some (.int .i64 x) := by
            rcases (by omega : j = 0 ∨ j = 1) with rfl | rfl
            · exact ⟨_, hl.out.cell rfl⟩
            · exact ⟨_, hl.out.cell rfl⟩
          have hl1 := hl.out.lt
          have hrl := hr.out.lt
          by_cases hx0 : x < 0 ∨ 512 ≤ x
          · have hx1 : x < 0 ∨ 512 ≤ x := hx0
            rcases hx1 with hx1 | hx1
            all_goals
              clear hx0
              go_wp2_with (first
                | (go_at_call 49; refine (Of_calls _ _).mono ?_; rintro e w9 ⟨r, rfl, hband, hb9⟩
                   obtain rfl : r = -1 := by
                     rcases hband with ⟨_, h⟩ | ⟨h0, h1, _⟩
                     · exact h
                     · omega))
              refine ⟨⟨j + 1, by omega, by push_cast; rfl, hl.out.below hb9 hl1, hr.out.below hb9 hrl, hb.out.trans (hb9.mono hs4)⟩, by simp [intOf]; omega⟩
          · have hx1 : 0 ≤ x := by omega
            have hx2 : x < 512 := by omega
            go_wp2_with (first
              | (go_at_call 49; refine (Of_calls _ _).mono ?_; rintro e w9 ⟨r, rfl, hband, hb9⟩
                 obtain ⟨n, hn, rfl, h1, h2⟩ : ∃ n : Nat, n < 21 ∧ r = n ∧ el n ≤ x ∧ x < el (n + 1) := by
                   rcases hband with ⟨h, _⟩ | ⟨_, _, h⟩
                   · omega
                   · exact h
                 have hr9 := hr.out.below hb9 hrl
                 have c1 := hr9.cell (i := n) (by rw [EL_len]; omega)
                 rw [EL_get _ (by rw [EL_len]; omega)] at c1
                 have c2 := hr9.cell (i := n + 1) (by rw [EL_len]; omega)
                 rw [EL_get _ (by rw [EL_len]; omega)] at c2))
            refine ⟨⟨j + 1, by omega, by push_cast; rfl, hl.out.below hb9 hl1, hr9, hb.out.trans (hb9.mono hs4)⟩, by simp [intOf]; omega⟩
        · obtain rfl : j = 2 := by omega
          go_wp2_with fail
          go_ret
          exact ⟨rfl, hb.out⟩
end Go.Proofs.Ytoooienmcogbhaa.Bnd
