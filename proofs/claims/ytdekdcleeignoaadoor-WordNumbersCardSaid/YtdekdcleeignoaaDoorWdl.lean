/-
  Words: lives; the law WordNumbers. No condition but those told.
-/
import Derived.Test.YtdekdcleeignoaaDoorWds
import Derived.Test.YtdekdcleeignoaaDoorWdm
import Derived.Lib.SlBytesConst
set_option linter.unusedVariables false
set_option linter.unusedSimpArgs false
namespace Go.Proofs.YtdekdcleeignoaaDoor.Wd
open Go.RowKit Go.Proofs
set_option maxRecDepth 100000 in
theorem title_ex : title ⟨#[73, 116, 39, 115]⟩ = [73, 116, 226, 128, 153, 115] := by kernel_rfl
set_option maxRecDepth 100000 in
theorem seal_ex : sealL [97, 98, 99] = [89, 87, 74, 106] := by kernel_rfl
set_option maxRecDepth 100000 in
theorem name_ex : nameB ⟨#[97, 45, 66]⟩ = true := by kernel_rfl
set_option maxHeartbeats 4000000 in
set_option maxRecDepth 100000 in
theorem lives_h (w : World) (hT : Lib.Utf8Tabs 0 1 w) : Calls Tryd.prog 27 #[] w fun e w' => e = .returned (.bool true) ∧ Below w.heap.size w w' := by
  have TC := Lib.hid (Title_h ⟨#[73, 116, 39, 115]⟩ (by decide) w hT)
  rw [title_ex] at TC
  have NC : Hid (∀ w' : World, Calls Tryd.prog 33 #[.string ⟨#[97, 45, 66]⟩] w' fun e w'' => e = .returned (.bool true) ∧ Below w'.heap.size w' w'') := Lib.hid (fun w' => by
    have h := Name_h ⟨#[97, 45, 66]⟩ (by decide) w'
    rw [name_ex] at h
    exact h)
  clear hT
  go_enter Tryd.func27, Tryd.ntmps27
  go_wp2_with fail
  refine TC.out.mono ?_
  rintro e1 w1 ⟨rfl, b1⟩
  have B1 := Lib.hid b1
  clear b1 TC
  have hcv := Lib.run_convert_bytes_const (P := Tryd.prog) w1 33 5 #[.int .u8 97, .int .u8 98, .int .u8 99] 3 3 Tryd.underlying33 Tryd.underlying5
  have B2 := Lib.hid (B1.out.alloc B1.out.size (.cells #[.int .u8 97, .int .u8 98, .int .u8 99] 5 (3, 4)))
  have cells : ∀ j (h : j < [(97 : Int), 98, 99].length), (w1.alloc (.cells #[.int .u8 97, .int .u8 98, .int .u8 99] 5 (3, 4))).cell? ⟨w1.heap.size, 0 + j, none⟩ = some (.int .u8 ([(97 : Int), 98, 99][j]'h)) := fun j h => by
    have e : (w1.alloc (.cells #[.int .u8 97, .int .u8 98, .int .u8 99] 5 (3, 4))).heap[w1.heap.size]? = some (.cells #[.int .u8 97, .int .u8 98, .int .u8 99] 5 (3, 4)) := by
      show (w1.heap.push _)[w1.heap.size]? = _
      simp
    rw [Nat.zero_add]
    unfold World.cell?
    simp only [e]
    match j, h with
    | 0, _ => rfl
    | 1, _ => rfl
    | 2, _ => rfl
  have SC := Lib.hid (Seal_h w1.heap.size 0 3 [97, 98, 99] 3 rfl _ cells (fun x hx => by simp at hx; omega) (by decide))
  rw [seal_ex] at SC
  clear cells
  go_wp2_with fail
  refine SC.out.mono ?_
  rintro e2 w2 ⟨rfl, b2⟩
  have B3 := Lib.hid (B2.out.trans (b2.mono B2.out.size))
  clear b2 SC B2
  go_wp2_with fail
  refine (NC.out _).mono ?_
  rintro e3 w3 ⟨rfl, b3⟩
  have B4 := Lib.hid (B3.out.trans (b3.mono B3.out.size))
  clear b3 B3
  go_wp2_with fail
  go_ret
  exact ⟨rfl, B4.out⟩
set_option maxHeartbeats 4000000 in
set_option maxRecDepth 100000 in
theorem numbers_law (s : ByteArray) (most : Int) (W : World) (hT : Lib.Utf8Tabs 0 1 W) (hs : s.size ≤ maxLen) (hm0 : -9223372036854775808 ≤ most) (hm1 : most ≤ 9223372036854775807) :
    Calls Tryd.prog 7 #[.string s, .int .i64 most] W fun e w' => e = .returned (.bool true) ∧ Below W.heap.size W w' := by
  have LV : Hid (∀ w', Below W.heap.size W w' → Calls Tryd.prog 27 #[] w' fun e w'' => e = .returned (.bool true) ∧ Below W.heap.size W w'') := Lib.hid (fun w' b => (lives_h w' (tabs_below hT b)).mono fun e w'' ⟨h1, h2⟩ => ⟨h1, b.trans (h2.mono b.size)⟩)
  clear hT
  by_cases h1 : 100 < s.size
  · have ds : decide ((100 : Int) < (s.size : Int)) = true := decide_eq_true (by omega)
    go_enter Tryd.func7, Tryd.ntmps7
    go_wp2_with fail
    refine (LV.out _ (Below.refl _ _)).mono ?_
    rintro e1 w1 ⟨rfl, b1⟩
    have B1 := Lib.hid b1
    clear b1
    go_wp2_with fail
    refine (LV.out _ B1.out).mono ?_
    rintro e2 w2 ⟨rfl, b2⟩
    have B2 := Lib.hid b2
    clear b2
    go_wp2_with fail
    go_ret
    exact ⟨rfl, B2.out⟩
  have ds : decide ((100 : Int) < (s.size : Int)) = false := decide_eq_false (by omega)
  have N1 := Lib.hid (fun w => Number_h s (by omega) most hm0 hm1 w)
  have N2 := Lib.hid (fun w => rNumber_h s (by omega) most hm0 hm1 w)
  have N3 := Lib.hid (fun w => Number_h s (by omega) 4611686018427387904 (by decide) (by decide) w)
  have N4 := Lib.hid (fun w => rNumber_h s (by omega) 4611686018427387904 (by decide) (by decide) w)
  obtain ⟨x, hx⟩ : ∃ x, numR s most = x := ⟨_, rfl⟩
  obtain ⟨y, hy⟩ : ∃ y, numR s 4611686018427387904 = y := ⟨_, rfl⟩
  rw [hx] at N1 N2
  rw [hy] at N3 N4
  clear hx hy hm0 hm1
  go_enter Tryd.func7, Tryd.ntmps7
  go_wp2_with fail
  refine (LV.out _ (Below.refl _ _)).mono ?_
  rintro e1 w1 ⟨rfl, b1⟩
  have B1 := Lib.hid b1
  clear b1
  go_wp2_with fail
  refine (N1.out _).mono ?_
  rintro e2 w2 ⟨rfl, b2⟩
  have B2 := Lib.hid (B1.out.trans (b2.mono B1.out.size))
  clear b2
  go_wp2_with fail
  refine (N2.out _).mono ?_
  rintro e3 w3 ⟨rfl, hw3⟩
  subst w3
  go_wp2_with fail
  refine (N3.out _).mono ?_
  rintro e4 w4 ⟨rfl, b4⟩
  have B4 := Lib.hid (B2.out.trans (b4.mono B2.out.size))
  clear b4
  go_wp2_with fail
  refine (N4.out _).mono ?_
  rintro e5 w5 ⟨rfl, hw5⟩
  subst w5
  go_wp2_with fail
  go_ret
  exact ⟨rfl, B4.out⟩
theorem wf_i64 {n : Int} (h : (Lit.int .i64 n).wf = true) : -9223372036854775808 ≤ n ∧ n ≤ 9223372036854775807 := by
  simp only [Lit.wf, Bool.and_eq_true, decide_eq_true_eq] at h
  have e1 : IntKind.min .i64 = -9223372036854775808 := by decide
  have e2 : IntKind.max .i64 = 9223372036854775807 := by decide
  rw [e1, e2] at h
  omega
theorem numbers_law' (s : ByteArray) (most : Int) (W : World) (hT : Lib.Utf8Tabs 0 1 W) (hs : s.size ≤ maxLen) (hm : (Lit.int .i64 most).wf = true) :
    Calls Tryd.prog 7 #[.string s, .int .i64 most] W fun e w' => e = .returned (.bool true) ∧ Below W.heap.size W w' := numbers_law s most W hT hs (wf_i64 hm).1 (wf_i64 hm).2
end Go.Proofs.YtdekdcleeignoaaDoor.Wd
