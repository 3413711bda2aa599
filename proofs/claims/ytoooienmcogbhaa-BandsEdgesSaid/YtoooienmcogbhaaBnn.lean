/-
  The walk of bands.New; no condition.
-/
import Derived.Test.YtoooienmcogbhaaBnd
set_option linter.unusedVariables false
set_option linter.unusedSimpArgs false
namespace Go.Proofs.Ytoooienmcogbhaa.Bnd
open Go.RowKit Go.Proofs.Ytoooienmcogbhaa Go.Proofs.YtoooienmcogbhaaW.PrintWords Go.Proofs.YtoooienmcogbhaaW.PrintLast Go.Proofs.YtoooienmcogbhaaW.PrintMore
/-- The cosine of up to half a circle's units, and of up to a circle's. -/
def cb (i : Nat) : Int := if i ≤ 1024 then qt i else -(qt (2048 - i))
def cv (i : Nat) : Int := if i ≤ 2048 then cb i else cb (4096 - i)
theorem wrapI32 {x : Int} (h0 : -2147483648 ≤ x) (h1 : x < 2147483648) : IntKind.i32.wrap x = x := by
  unfold IntKind.wrap
  simp only [IntKind.bits, IntKind.signed]
  simp
  split <;> omega
theorem cv_flip (n m : Nat) (h : 2048 < n) (hm : m + n = 4096) : cv m = cv n := by
  unfold cv
  rw [if_pos (by omega), if_neg (by omega), show 4096 - n = m from by omega]
theorem cv_back (n m : Nat) (h : n ≤ 2048) (h2 : 1024 < n) (hm : m + n = 2048) : cv n = -(qt m) := by
  unfold cv cb
  rw [if_pos h, if_neg (by omega), show 2048 - n = m from by omega]
theorem cv_half : cv 2048 = -16777216 := by decide +kernel
theorem cv_first (n : Nat) (h : n ≤ 1024) : cv n = qt n := by
  unfold cv cb
  rw [if_pos (by omega), if_pos h]
theorem fillTo_lt (f : Nat → Int) (n j i : Nat) (h : i < n) (hj : i < j) {h' : i < (fillTo f n j).length} : (fillTo f n j)[i] = f i := by simp [fillTo, hj]
theorem QT_get (i : Nat) (h : i < 1025) : (vals .i64 QT)[i]? = some (.int .i64 (qt i)) := by
  rw [← sel_all, vals_get (by rw [sel_len]; exact h), sel_get _ _ h rfl]
attribute [local irreducible] qt QT sel cv cb
theorem cells_new : Try.zeroCells87 = vals .i32 (fillTo cv 4096 0) := by kernel_rfl
set_option maxHeartbeats 4000000 in
set_option maxRecDepth 100000 in
theorem New_calls (w : World) : Calls Try.prog 41 #[] w fun e w' => ∃ g, w.heap.size ≤ g ∧ e = .returned (.pointer (some ⟨g, 0, none⟩)) ∧ Blk w' g 87 (vals .i32 (fillTo cv 4096 4096)) ∧ Below w.heap.size w w' := by
  obtain ⟨cs, hcs⟩ : ∃ cs, cs = vals .i64 QT := ⟨_, rfl⟩
  have s1 : cs.size = 1025 := by rw [hcs, vals_size, ← sel_all, sel_len]
  have s2 : cs.all (·.oneCell') = true := by rw [hcs]; exact vals_one _ _
  have q : ∀ w, Calls Try.prog 63 #[] w fun e w' => e = .returned (.agg cs) ∧ Below w.heap.size w w' := by rw [hcs]; exact quarter_calls
  have HC := Lib.hid hcs
  clear hcs
  go_enter Try.func41, Try.ntmps41
  go_wp2_with (first
    | (go_at_call 63; refine (q _).mono ?_; rintro e w1 ⟨rfl, hb1⟩)
    | (refine wpList_store_row rfl 88 _ _ rfl w1.heap.size cs rfl rfl 88 _ (Blk.new w1 _ _) (by rw [s1]; kernel_rfl) (by rw [s1]; kernel_rfl) s2 ?_))
  go_loopw [8] (fun v wr => ∃ n : Nat, n ≤ 4096 ∧ v = .int .i64 (n : Int) ∧ Hid (Blk wr w.heap.size 87 (vals .i32 (fillTo cv 4096 n))) ∧ Hid (Blk wr w1.heap.size 88 cs) ∧ Hid (Below w.heap.size w wr)) (fun v _ => 4096 - (intOf v).toNat)
  case atStart =>
    have hs1 := hb1.size
    simp at hs1
    have hB : Below w.heap.size w w1 := (((Below.refl _ _).alloc (Nat.le_refl _) _ : Below w.heap.size w (w.alloc (Obj.cells Try.zeroCells87 87)))).trans (hb1.mono (by simp))
    have h0 : Blk w1 w.heap.size 87 (vals .i32 (fillTo cv 4096 0)) := by
      rw [← cells_new]
      exact (Blk.new w _ _).below hb1 (by simp)
    refine ⟨0, by omega, rfl, (h0.alloc _).row_other (k := w1.heap.size) (by omega) cs, Blk.row (Blk.new w1 _ _) cs, below_row (hB.alloc (by omega) _) (by omega) cs⟩
  case round =>
    have hs1 := hb1.size
    simp at hs1
    clear hb1
    obtain ⟨n, hn, rfl, h0, h1, hb⟩ := hrel
    have hne : w1.heap.size ≠ w.heap.size := by omega
    by_cases hlt : n < 4096
    · obtain ⟨k, hk⟩ : ∃ k, k = n % 2048 := ⟨_, rfl⟩
      have i0 : (n : Int) < 4096 := by omega
      have ff := h0.out.free n
      have cc := h0.out.cell (vals_get (i := n) (by rw [fillTo_len]; omega))
      generalize (fillTo cv 4096 n)[n]'(by rw [fillTo_len]; omega) = zc at cc
      have e3 : IntKind.i64.wrap ((n : Int) + 1) = ((n + 1 : Nat) : Int) := by rw [wrapI64 (by omega) (by omega)]; rfl
      have hk2 : (n : Int) % 2048 = (k : Int) := by omega
      have hm : Int.tmod (n : Int) 2048 = (k : Int) := by rw [Int.tmod_eq_emod_of_nonneg (by omega)]; omega
      have HK := Lib.hid hk
      have hkb : n < 2048 → k = n := by omega
      clear hk
      by_cases c1 : 2048 < n
      · have c1' : (2048 : Int) < n := by omega
        obtain ⟨m, hmn⟩ : ∃ m, m + n = 4096 := ⟨4096 - n, by omega⟩
        have w1 : IntKind.i64.wrap (4096 - (n : Int)) = (m : Int) := by rw [wrapI64 (by omega) (by omega)]; omega
        have cm := h0.out.cell (v := .int .i32 (cv m)) (i := m) (by rw [vals_get (by rw [fillTo_len]; omega), fillTo_lt _ _ _ _ (by omega) (by omega)])
        have im : (m : Int) < 4096 := by omega
        go_wp2_with fail
        go_still_tail 12, (by kernel_rfl)
        go_wp2_with fail
        refine ⟨⟨n + 1, by omega, by push_cast; rfl, ?_, (h1.out.other (a := ⟨w.heap.size, n, none⟩) hne _).drew, (hb.out.setCell (p := ⟨w.heap.size, n, none⟩) (by simp) _).drew⟩, by simp [intOf]; omega⟩
        rw [show cv m = cv n from cv_flip n m c1 hmn, ← fillTo_set]
        exact (h0.out.seti n (cv n)).drew
      · have c1' : ¬ (2048 : Int) < n := by omega
        have hk := HK.out
        by_cases c2 : 1024 < k
        · have c2' : (1024 : Int) < k := by omega
          obtain ⟨m, hmn⟩ : ∃ m, m + k = 2048 := ⟨2048 - k, by omega⟩
          have w1 : IntKind.i64.wrap (2048 - (k : Int)) = (m : Int) := by rw [wrapI64 (by omega) (by omega)]; omega
          have cm := h1.out.cell (v := .int .i64 (qt m)) (i := m) (by rw [HC.out, QT_get m (by omega)])
          have qm := qt_bd ⟨m, by omega⟩
          simp only at qm
          have im : (m : Int) < 1025 := by omega
          have w2 : IntKind.i32.wrap (qt m) = qt m := wrapI32 (by omega) (by omega)
          have w3 : IntKind.i32.wrap (-(qt m)) = -(qt m) := wrapI32 (by omega) (by omega)
          have HKN := Lib.hid (show k = n by omega)
          clear hk
          go_wp2_with fail
          go_still_tail 11, (by kernel_rfl)
          go_wp2_with fail
          refine ⟨⟨n + 1, by omega, by push_cast; rfl, ?_, (h1.out.other (a := ⟨w.heap.size, n, none⟩) hne _).drew, (hb.out.setCell (p := ⟨w.heap.size, n, none⟩) (by simp) _).drew⟩, by simp [intOf]; omega⟩
          rw [show -(qt m) = cv n from (cv_back n m (by omega) (by have := HKN.out; omega) (by have := HKN.out; omega)).symm, ← fillTo_set]
          exact (h0.out.seti n (cv n)).drew
        · have c2' : ¬ (1024 : Int) < k := by omega
          by_cases c3 : n = 2048
          · subst c3
            go_wp2_with fail
            refine ⟨⟨2049, by omega, rfl, ?_, h1.out.other (a := ⟨w.heap.size, 2048, none⟩) hne _, hb.out.setCell (p := ⟨w.heap.size, 2048, none⟩) (by simp) _⟩, by simp [intOf]⟩
            have h2 := h0.out.seti 2048 (-16777216)
            rw [← cv_half, fillTo_set] at h2
            rw [← cv_half]
            exact h2
          · have c3' : ¬ (n : Int) = 2048 := by omega
            have cm := h1.out.cell (v := .int .i64 (qt k)) (i := k) (by rw [HC.out, QT_get k (by omega)])
            have qm := qt_bd ⟨k, by omega⟩
            simp only at qm
            have im : (k : Int) < 1025 := by omega
            have w2 : IntKind.i32.wrap (qt k) = qt k := wrapI32 (by omega) (by omega)
            have HKN := Lib.hid (show k = n by omega)
            clear hk
            go_wp2_with fail
            go_still_tail 9, (by kernel_rfl)
            go_wp2_with fail
            refine ⟨⟨n + 1, by omega, by push_cast; rfl, ?_, (h1.out.other (a := ⟨w.heap.size, n, none⟩) hne _).drew, (hb.out.setCell (p := ⟨w.heap.size, n, none⟩) (by simp) _).drew⟩, by simp [intOf]; omega⟩
            rw [show qt k = cv n from by rw [HKN.out]; exact (cv_first n (by have := HKN.out; omega)).symm, ← fillTo_set]
            exact (h0.out.seti n (cv n)).drew
    · obtain rfl : n = 4096 := by omega
      go_wp2_with fail
      go_ret
      exact ⟨w.heap.size, Nat.le_refl _, rfl, h0.out, hb.out⟩
end Go.Proofs.Ytoooienmcogbhaa.Bnd
