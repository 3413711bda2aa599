/-
  Law 7: lives, and RangedecNil; no condition.
-/
import Derived.Test.YtlbjoflmfboeeaaErm
import Derived.Test.YtlbjoflmfboeeaaDes
import Derived.Test.YtlbjoflmfboeeaaRows
set_option linter.unusedVariables false
set_option linter.unusedSimpArgs false
namespace Go.Proofs.Ytlbjoflmfboeeaa.Deco
open Go.RowKit Go.Proofs.Ytlbjoflmfboeeaa Go.Proofs.YtlbjoflmfboeeaaW.PrintWords

theorem b77777 : Enc.bytesS (Enc.bitsS Enc.fresh 77777 20) = [18, 253, 14, 208, 47] := by decide +kernel
theorem d77777 : (bitsD (openS [18, 253, 14, 208, 47]) 0 20).1 = 77777 := by decide +kernel
theorem byt5 : Byt [18, 253, 14, 208, 47] := by unfold Byt; decide
theorem byt0 : Byt [] := by unfold Byt; decide
theorem d0 : (bitsD (openS []) 0 9).1 = 0 := by decide +kernel
theorem src0 (w : World) : Src w .u8 (.slice none 0 0) [] := Src.of_sl (Sl.nil w 5 .u8)
theorem k_ready : (Enc.bitsS Enc.fresh 77777 20).k ≤ 800000000 := by
  have := (Enc.bitsS_ready Enc.fresh_rdy 77777 20 (by decide)).2.2
  have e : Enc.fresh.k = 0 := rfl
  omega
theorem open_n (bs : List Int) : (openS bs).n = 4 := rfl
attribute [local irreducible] Enc.bitsS Enc.bytesS bitsD openS
set_option maxHeartbeats 2000000 in
set_option maxRecDepth 100000 in
theorem lives_calls (w : World) : Calls Try.prog 32 #[] w fun e w' => e = .returned (.bool true) ∧ Below w.heap.size w w' := by
  go_enter Try.func32, Try.ntmps32
  go_wp2_with fail
  refine (Enc.New_calls _).mono ?_
  rintro e1 w1 ⟨rfl, i1, b1⟩
  have I1 := Lib.hid i1
  have B1 := Lib.hid b1
  have s1 := b1.size
  have l1 := i1.blk.lt
  clear i1 b1
  go_wp2_with fail
  refine (Enc.Bits_yes I1.out Enc.fresh_rdy (by decide) 77777 20 (by decide) (by decide) (by decide)).mono ?_
  rintro e3 w3 ⟨v3, rfl, i3, st3⟩
  have I3 := Lib.hid i3
  have B3 : Hid (Below w.heap.size w w3) := Lib.hid (B1.out.trans (st3.only.below (B := w.heap.size) (by omega) (fun i hi => by rcases hi with hi | hi; omega; cases hi)))
  have s3 := st3.only.size
  clear i3 st3 I1 B1
  have By0 := Lib.hid (Enc.Bytes_some I3.out (Enc.bitsS_ready Enc.fresh_rdy 77777 20 (by decide)).1 k_ready)
  rw [b77777] at By0
  go_wp2_with fail
  refine By0.out.mono ?_
  rintro e5 w5 ⟨v5, rfl, sl5, _, b5⟩
  have S5 := Lib.hid (Src.of_sl sl5)
  have B5 : Hid (Below w.heap.size w w5) := Lib.hid (B3.out.trans (b5.mono (by omega)))
  have s5 := b5.size
  clear sl5 b5 B3 By0
  go_wp2_with fail
  refine (New_calls S5.out byt5).mono ?_
  rintro e6 w6 ⟨d, v6, rfl, hd, ho, i6, b6⟩
  have I6 := Lib.hid i6
  have B6 : Hid (Below w.heap.size w w6) := Lib.hid (B5.out.trans (b6.mono (by omega)))
  have s6 := b6.size
  clear i6 b6 B5 ho
  have Bt := Lib.hid (Bits_yes I6.out (open_ready _ byt5) (by rw [open_n]; decide) 20 (by decide))
  rw [d77777] at Bt
  go_wp2_with fail
  refine Bt.out.mono ?_
  rintro e7 w7 ⟨rfl, i7, o7⟩
  have B7 : Hid (Below w.heap.size w w7) := Lib.hid (B6.out.trans (o7.below (by omega) (fun i hi => by omega)))
  clear i7 o7 B6 Bt
  go_wp2_with fail
  go_ret
  exact ⟨rfl, B7.out⟩
theorem lives_on {B : Nat} {w0 w : World} (h : Below B w0 w) (hB : B ≤ w.heap.size) : Calls Try.prog 32 #[] w fun e w' => e = .returned (.bool true) ∧ Below B w0 w' :=
  (lives_calls w).mono fun e w' ⟨he, hb⟩ => ⟨he, h.trans (hb.mono hB)⟩
set_option maxHeartbeats 2000000 in
set_option maxRecDepth 100000 in
theorem nil_calls (wide : Int) (w : World) : Calls Try.prog 6 #[.int .i64 wide] w fun e w' => e = .returned (.bool true) ∧ Below w.heap.size w w' := by
  go_enter Try.func6, Try.ntmps6
  go_wp2_with fail
  refine (lives_calls _).mono ?_
  rintro e1 w1 ⟨rfl, b1⟩
  have B1 := Lib.hid b1
  have s1 := b1.size
  clear b1
  go_wp2_with fail
  refine (Mdl.New_yes 3 (by decide) (by decide) _).mono ?_
  rintro e2 w2 ⟨m, h, rfl, hm, hh, i2, b2⟩
  have I2 := Lib.hid i2
  have B2 : Hid (Below w.heap.size w w2) := Lib.hid (B1.out.trans (b2.mono s1))
  have s2 := b2.size
  clear i2 b2 B1
  go_wp2_with fail
  refine (Symbol_none I2.out (Mdl.good_new 3 (by decide) (by decide))).mono ?_
  rintro e3 w3 ⟨rfl, b3⟩
  have B3 : Hid (Below w.heap.size w w3) := Lib.hid (B2.out.trans (b3.mono (by omega)))
  have s3 := b3.size
  clear b3 B2 I2
  go_wp2_with fail
  refine (Bits_none _ _).mono ?_
  rintro e4 w4 ⟨rfl, rfl⟩
  go_wp2_with fail
  refine (New_calls (src0 _) byt0).mono ?_
  rintro e5 w5 ⟨d5, v5, rfl, _, _, _, b5⟩
  have B5 : Hid (Below w.heap.size w w5) := Lib.hid (B3.out.trans (b5.mono (by omega)))
  have s5 := b5.size
  clear b5 B3
  go_wp2_with fail
  refine (Symbol_nomodel _ _).mono ?_
  rintro e6 w6 ⟨rfl, b6⟩
  have B6 : Hid (Below w.heap.size w w6) := Lib.hid (B5.out.trans (b6.mono (by omega)))
  have s6 := b6.size
  clear b6 B5
  go_wp2_with fail
  refine (New_calls (src0 _) byt0).mono ?_
  rintro e7 w7 ⟨d7, v7, rfl, hd7, _, i7, b7⟩
  have I7 := Lib.hid i7
  have B7 : Hid (Below w.heap.size w w7) := Lib.hid (B6.out.trans (b7.mono (by omega)))
  have s7 := b7.size
  clear i7 b7 B6
  have Bt := Lib.hid (Bits_yes I7.out (open_ready _ byt0) (by rw [open_n]; decide) 9 (by decide))
  rw [d0] at Bt
  go_wp2_with fail
  refine Bt.out.mono ?_
  rintro e8 w8 ⟨rfl, i8, o8⟩
  have B8 : Hid (Below w.heap.size w w8) := Lib.hid (B7.out.trans (o8.below (by omega) (fun i hi => by omega)))
  have s8 := o8.size
  clear i8 o8 B7 Bt I7
  go_wp2_with fail
  refine (Over_none _).mono ?_
  rintro e9 w9 ⟨rfl, rfl⟩
  go_wp2_with fail
  refine (New_calls (src0 _) byt0).mono ?_
  rintro e10 w10 ⟨d10, v10, rfl, _, _, i10, b10⟩
  have I10 := Lib.hid i10
  have B10 : Hid (Below w.heap.size w w10) := Lib.hid (B8.out.trans (b10.mono (by omega)))
  have s10 := b10.size
  clear i10 b10 B8
  have Ov := Lib.hid (Over_calls I10.out (by decide +kernel) (by rw [open_n]; decide))
  go_wp2_with fail
  refine Ov.out.mono ?_
  rintro e11 w11 ⟨rfl, nq, rfl⟩
  have e4 : max (((openS []).n : Int) - (openS []).bs.length) 0 = 4 := by decide +kernel
  rw [e4]
  clear Ov e4 I10
  go_wp2_with fail
  go_ret
  exact ⟨rfl, pw_below_drewN B10.out nq⟩
theorem nil_law (wide : Int) (w : World) (_ : (Lit.int .i64 wide).wf = true) : Calls Try.prog 6 #[.int .i64 wide] w fun e w' => e = .returned (.bool true) ∧ Below w.heap.size w w' := nil_calls wide w
end Go.Proofs.Ytlbjoflmfboeeaa.Deco
