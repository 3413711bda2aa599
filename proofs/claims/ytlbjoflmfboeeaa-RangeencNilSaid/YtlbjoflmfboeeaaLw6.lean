/-
  Law 6: lives, and RangeencNil; no condition.
-/
import Derived.Test.YtlbjoflmfboeeaaErl
import Derived.Test.YtlbjoflmfboeeaaRows
set_option linter.unusedVariables false
set_option linter.unusedSimpArgs false
namespace Go.Proofs.Ytlbjoflmfboeeaa.Enc
open Go.RowKit Go.Proofs.Ytlbjoflmfboeeaa Go.Proofs.YtlbjoflmfboeeaaW.PrintWords Go.Proofs.Ytlbjoflmfboeeaa.Dig

theorem fresh_ready : fresh.Ready := fresh_rel.ready rfresh_good
theorem sl_ne {w : World} {e : TypeId} {k : IntKind} {v : Value} {xs : List Int} (h : Sl w e k v xs) (hp : 0 < xs.length) : ∃ g cap, v = .slice (some ⟨g, 0, none⟩) xs.length cap ∧ RowI w e k g cap xs := by
  rcases h with ⟨_, h⟩ | ⟨g, cap, rfl, h⟩
  · subst h; simp at hp
  · exact ⟨g, cap, rfl, h⟩
theorem may8 : May 0 1 256 ∧ May 128 1 256 := by unfold May; decide
theorem b0 : bytesS (bitsS fresh 0 8) = [] := by decide +kernel
theorem b128 : bytesS (bitsS fresh 128 8) = [127, 255, 255, 128] := by decide +kernel
theorem bits_ready (n : Int) (h0 : 0 ≤ n) (h1 : n < 256) : (bitsS fresh n 8).Ready ∧ (bitsS fresh n 8).k ≤ 2 := by
  have e : bitsS fresh n 8 = putS fresh n 1 256 := by
    unfold bitsS
    rw [if_neg (by omega), if_pos (by omega), show (2 : Int) ^ 8 = 256 from by decide, Int.emod_eq_of_lt h0 h1]
  rw [e]
  have := put_ready fresh_ready (lo := n) (ow := 1) (al := 256) ⟨h0, by omega, by omega, by omega⟩
  exact ⟨this.1, this.2.2⟩
theorem Is.drewB {w w' : World} {m : Nat} {s : St} {v : Value} (a : Is w m s v) (b : Below w.heap.size w w') : Is w' m s v := a.below b
attribute [local irreducible] bitsS putS bytesS
set_option maxHeartbeats 2000000 in
set_option maxRecDepth 100000 in
theorem lives_calls (w : World) : Calls Try.prog 15 #[] w fun e w' => e = .returned (.bool true) ∧ Below w.heap.size w w' := by
  have r0 := bits_ready 0 (by decide) (by decide)
  have r1 := bits_ready 128 (by decide) (by decide)
  have R0 := Lib.hid r0
  have R1 := Lib.hid r1
  clear r0 r1
  go_enter Try.func15, Try.ntmps15
  go_wp2_with fail
  refine (New_calls _).mono ?_
  rintro e1 w1 ⟨rfl, i1, b1⟩
  have I1 := Lib.hid i1
  have B1 := Lib.hid b1
  have s1 := b1.size
  have l1 := i1.blk.lt
  clear i1 b1
  go_wp2_with fail
  refine (New_calls _).mono ?_
  rintro e2 w2 ⟨rfl, i2, b2⟩
  have I2 := Lib.hid i2
  have I1b := Lib.hid (I1.out.below b2)
  have B2 : Hid (Below w.heap.size w w2) := Lib.hid (B1.out.trans (b2.mono s1))
  have s2 := b2.size
  have l2 := i2.blk.lt
  clear i2 b2 I1 B1
  go_wp2_with fail
  refine (Bits_yes I1b.out fresh_ready (by decide) 0 8 (by decide) (by decide) (by decide)).mono ?_
  rintro e3 w3 ⟨v3, rfl, i3, st3⟩
  have I3 := Lib.hid i3
  have I2b := Lib.hid (I2.out.only st3.only (fun h => by rcases h with h | h; omega; cases h) (fun g hg => by cases hg))
  have O3 := Lib.hid st3.own
  have B3 : Hid (Below w.heap.size w w3) := Lib.hid (B2.out.trans (st3.only.below (B := w.heap.size) (by omega) (fun i hi => by rcases hi with hi | hi; omega; cases hi)))
  have s3 := st3.only.size
  clear i3 st3 I1b I2 B2
  go_wp2_with fail
  refine (Bits_yes I2b.out fresh_ready (by decide) 128 8 (by decide) (by decide) (by decide)).mono ?_
  rintro e4 w4 ⟨v4, rfl, i4, st4⟩
  have I4 := Lib.hid i4
  have I3b := Lib.hid (I3.out.only st4.only (fun h => by rcases h with h | h; omega; cases h) (fun g hg h => by
    rcases O3.out g hg with h1 | h1
    · cases h1
    · rcases h with h | h
      · omega
      · cases h))
  have B4 : Hid (Below w.heap.size w w4) := Lib.hid (B3.out.trans (st4.only.below (B := w.heap.size) (by omega) (fun i hi => by rcases hi with hi | hi; omega; cases hi)))
  have s4 := st4.only.size
  clear i4 st4 I3 I2b B3
  have By0 := Lib.hid (Bytes_some I3b.out R0.out.1 (by have := R0.out.2; omega))
  rw [b0] at By0
  go_wp2_with fail
  refine By0.out.mono ?_
  rintro e5 w5 ⟨v5, rfl, sl5, _, b5⟩
  obtain ⟨A5, c5, hv5, _⟩ := sl5.form
  subst hv5
  have I5 := Lib.hid (I4.out.below b5)
  have B5 : Hid (Below w.heap.size w w5) := Lib.hid (B4.out.trans (b5.mono (by omega)))
  have s5 := b5.size
  clear sl5 b5 I4 B4 By0
  have By1 := Lib.hid (Bytes_some I5.out R1.out.1 (by have := R1.out.2; omega))
  rw [b128] at By1
  go_wp2_with fail
  refine By1.out.mono ?_
  rintro e6 w6 ⟨v6, rfl, sl6, _, b6⟩
  obtain ⟨g6, c6, hv6, rw6⟩ := sl_ne sl6 (by decide)
  subst hv6
  have I6 := Lib.hid (I5.out.below b6)
  have B6 : Hid (Below w.heap.size w w6) := Lib.hid (B5.out.trans (b6.mono (by omega)))
  have s6 := b6.size
  clear sl6 rw6 b6 I5 B5 By1
  have By2 := Lib.hid (Bytes_some I6.out R1.out.1 (by have := R1.out.2; omega))
  rw [b128] at By2
  go_wp2_with fail
  refine By2.out.mono ?_
  rintro e7 w7 ⟨v7, rfl, sl7, _, b7⟩
  obtain ⟨g7, c7, hv7, rw7⟩ := sl_ne sl7 (by decide)
  subst hv7
  have d7 : w7.cell? ⟨g7, 0, none⟩ = some (.int .u8 127) := rw7.cell (i := 0) (by decide)
  have B7 : Hid (Below w.heap.size w w7) := Lib.hid (B6.out.trans (b7.mono (by omega)))
  clear sl7 rw7 b7 I6 B6 By2
  go_wp2_with fail
  go_ret
  exact ⟨rfl, B7.out⟩
theorem lives_on {B : Nat} {w0 w : World} (h : Below B w0 w) (hB : B ≤ w.heap.size) : Calls Try.prog 15 #[] w fun e w' => e = .returned (.bool true) ∧ Below B w0 w' :=
  (lives_calls w).mono fun e w' ⟨he, hb⟩ => ⟨he, h.trans (hb.mono hB)⟩
set_option maxHeartbeats 2000000 in
set_option maxRecDepth 100000 in
theorem nil_calls (n wide s : Int) (w : World) : Calls Try.prog 3 #[.int .u32 n, .int .i64 wide, .int .i64 s] w fun e w' => e = .returned (.bool true) ∧ Below w.heap.size w w' := by
  go_enter Try.func3, Try.ntmps3
  go_wp2_with fail
  refine (lives_calls _).mono ?_
  rintro e1 w1 ⟨rfl, b1⟩
  have B1 := Lib.hid b1
  have s1 := b1.size
  clear b1
  go_wp2_with fail
  refine (Mdl.New_yes 3 (by decide) (by decide) _).mono ?_
  rintro e2 w2 ⟨m, h, rfl, hm, hh, i2, b2⟩
  have I2 := Lib.hid i2
  have B2 : Hid (Below w.heap.size w w2) := Lib.hid (B1.out.trans (b2.mono s1))
  have s2 := b2.size
  clear i2 b2 B1
  go_wp2_with fail
  refine (Put_none _ _ _ _ rfl _).mono ?_
  rintro e3 w3 ⟨rfl, b3⟩
  have I3 := Lib.hid (I2.out.only (Only.of_below b3 : Only (fun _ => False) _ _) (fun h => h) (fun h => h))
  have B3 : Hid (Below w.heap.size w w3) := Lib.hid (B2.out.trans (b3.mono (by omega)))
  have s3 := b3.size
  clear b3 B2 I2
  go_wp2_with fail
  refine (Bits_none _ _ _).mono ?_
  rintro e4 w4 ⟨rfl, rfl⟩
  go_wp2_with fail
  refine (Symbol_none I3.out (Mdl.good_new 3 (by decide) (by decide)) s).mono ?_
  rintro e5 w5 ⟨rfl, b5⟩
  have B5 : Hid (Below w.heap.size w w5) := Lib.hid (B3.out.trans (b5.mono (by omega)))
  have s5 := b5.size
  clear b5 B3
  go_wp2_with fail
  refine (Len_none _).mono ?_
  rintro e6 w6 ⟨rfl, rfl⟩
  go_wp2_with fail
  refine (Bytes_none _).mono ?_
  rintro e7 w7 ⟨rfl, rfl⟩
  go_wp2_with fail
  refine (New_calls _).mono ?_
  rintro e8 w8 ⟨rfl, _, b8⟩
  have B8 : Hid (Below w.heap.size w w8) := Lib.hid (B5.out.trans (b8.mono (by omega)))
  have s8 := b8.size
  clear b8 B5
  go_wp2_with fail
  refine (Symbol_nomodel _ _ _).mono ?_
  rintro e9 w9 ⟨rfl, b9⟩
  have B9 : Hid (Below w.heap.size w w9) := Lib.hid (B8.out.trans (b9.mono (by omega)))
  clear b9 B8
  go_wp2_with fail
  go_ret
  exact ⟨rfl, B9.out⟩
theorem nil_law (n wide s : Int) (w : World) (_ : (Lit.int .u32 n).wf = true) (_ : (Lit.int .i64 wide).wf = true) (_ : (Lit.int .i64 s).wf = true) : Calls Try.prog 3 #[.int .u32 n, .int .i64 wide, .int .i64 s] w fun e w' => e = .returned (.bool true) ∧ Below w.heap.size w w' := nil_calls n wide s w
end Go.Proofs.Ytlbjoflmfboeeaa.Enc
