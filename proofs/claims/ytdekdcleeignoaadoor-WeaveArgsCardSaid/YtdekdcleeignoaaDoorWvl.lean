/-
  Weave: lives; the law WeaveArgs. No condition but those told.
-/
import Derived.Test.YtdekdcleeignoaaDoorWvb
set_option linter.unusedVariables false
set_option linter.unusedSimpArgs false
namespace Go.Proofs.YtdekdcleeignoaaDoor.Wv
open Go.RowKit Go.Proofs Go.Proofs.YtdekdcleeignoaaDoor Go.Proofs.YtdekdcleeignoaaDoor.Wd
set_option maxRecDepth 100000 in
theorem title_a : title ⟨#[97]⟩ = [97] := by kernel_rfl
set_option maxRecDepth 100000 in
theorem run_ex : (wrun 4 ⟨#[97]⟩ (0, true, []) [1, 2, 3, 4, 5]).2.2 = [1, 2, 3, 4, 1, 83, 116, 114, 101, 97, 109, 84, 105, 116, 108, 101, 61, 39, 97, 39, 59, 5] := by kernel_rfl
set_option maxRecDepth 100000 in
theorem str_ex : strOfNums [1, 2, 3, 4, 1, 83, 116, 114, 101, 97, 109, 84, 105, 116, 108, 101, 61, 39, 97, 39, 59, 5] = ⟨#[1, 2, 3, 4, 1, 83, 116, 114, 101, 97, 109, 84, 105, 116, 108, 101, 61, 39, 97, 39, 59, 5]⟩ := by kernel_rfl
set_option maxHeartbeats 4000000 in
set_option maxRecDepth 100000 in
theorem lives_h (w : World) (hT : Lib.Utf8Tabs 0 1 w) : Calls Tryd.prog 12 #[] w fun e w' => e = .returned (.bool true) ∧ Below w.heap.size w w' := by
  have HT := Lib.hid hT
  have NC := Lib.hid (New_h (Hp.nil w) 4 (by decide))
  clear hT
  go_enter Tryd.func12, Tryd.ntmps12
  go_wp2_with fail
  refine NC.out.mono ?_
  rintro e1 w1 ⟨gw, rfl, h1⟩
  have TC := TitleW_h (ev := 4) (n := 0) h1 (tabs_below HT.out h1.b) ⟨#[97]⟩ (by decide) (by rw [title_a]; intro h; exact absurd (congrArg ByteArray.size h) (by decide))
  rw [title_a] at TC
  have TD := Lib.hid TC
  clear h1 NC TC
  go_wp2_with fail
  refine TD.out.mono ?_
  rintro e2 w2 ⟨rfl, h2⟩
  have H2 := Lib.hid (h2.add_row ((Below.refl _ _).alloc (Nat.le_refl _) (.cells #[.int .u8 1, .int .u8 2, .int .u8 3, .int .u8 4, .int .u8 5] 5)) (t := 5) (k := .u8) (g := w2.heap.size) (cap := 5) (xs := [1, 2, 3, 4, 5]) ⟨#[.int .u8 1, .int .u8 2, .int .u8 3, .int .u8 4, .int .u8 5], Blk.new w2 _ _, by simp, by unfold maxLen; omega, rfl, fun i hi => by
    match i, hi with
    | 0, _ => rfl
    | 1, _ => rfl
    | 2, _ => rfl
    | 3, _ => rfl
    | 4, _ => rfl⟩ (Nat.le_refl _)).swap
  have WC := Weave_h (ev := 4) (n0 := 0) (f0 := true) (tt := ⟨#[97]⟩) H2.out HT.out (by decide) (Rd.row (xs := [1, 2, 3, 4, 5])) rfl (by decide) (by decide)
  rw [run_ex] at WC
  have WD := Lib.hid WC
  clear h2 TD WC H2
  go_wp2_with fail
  refine WD.out.mono ?_
  rintro e3 w3 ⟨v, rfl, h3⟩
  have CV := Src.str (P := Tryd.prog) Tryd.underlying33 Tryd.underlying5 Tryd.underlying9 (Src.of_sl h3.sl)
  rw [str_ex] at CV
  have B3 := Lib.hid h3.b
  clear h3 WD
  go_wp2_with fail
  go_ret
  exact ⟨rfl, B3.out⟩
set_option maxHeartbeats 4000000 in
set_option maxRecDepth 100000 in
theorem args_law (n : Int) (A : Option Addr) (m c : Nat) (W : World) (hT : Lib.Utf8Tabs 0 1 W) :
    Calls Tryd.prog 5 #[.int .i64 n, .slice A m c] W fun e w' => e = .returned (.bool true) ∧ Below W.heap.size W w' := by
  have LV : Hid (∀ w', Below W.heap.size W w' → Calls Tryd.prog 12 #[] w' fun e w'' => e = .returned (.bool true) ∧ Below W.heap.size W w'') := Lib.hid (fun w' b => (lives_h w' (tabs_below hT b)).mono fun e w'' ⟨h1, h2⟩ => ⟨h1, b.trans (h2.mono b.size)⟩)
  clear hT
  by_cases h1 : 100 < m
  · have ds : decide ((100 : Int) < (m : Int)) = true := decide_eq_true (by omega)
    go_enter Tryd.func5, Tryd.ntmps5
    go_wp2_with fail
    refine (LV.out _ (Below.refl _ _)).mono ?_
    rintro e1 w1 ⟨rfl, b1⟩
    have B1 := Lib.hid b1
    clear b1
    go_wp2_with fail
    refine (LV.out _ B1.out).mono ?_
    rintro e2 w2 ⟨rfl, b2⟩
    have B2 := Lib.hid b2
    clear b2
    go_wp2_with fail
    go_ret
    exact ⟨rfl, B2.out⟩
  have ds : decide ((100 : Int) < (m : Int)) = false := decide_eq_false (by omega)
  by_cases hn : 0 ≤ n ∧ n ≤ 65536
  · have d1 : decide ((0 : Int) ≤ n) = true := decide_eq_true hn.1
    have d2 : decide (n ≤ (65536 : Int)) = true := decide_eq_true hn.2
    obtain ⟨k, rfl⟩ : ∃ k : Nat, n = (k : Int) := ⟨n.toNat, by omega⟩
    have k6 : k ≤ 65536 := by omega
    have NC : Hid (∀ w', Below W.heap.size W w' → Calls Tryd.prog 14 #[.int .i64 (k : Int)] w' fun e w'' => ∃ gw, e = .returned (.tuple #[.pointer (some ⟨gw, 0, none⟩), .int .i64 0]) ∧ Below W.heap.size W w'') := Lib.hid (fun w' b => (New_h (W := W) (L := []) ⟨b, trivial⟩ k k6).mono fun e w'' ⟨g, h1, h2⟩ => ⟨g, h1, h2.b⟩)
    have PC : Hid (∀ w', Below W.heap.size W w' → Calls Tryd.prog 21 #[.int .i64 (k : Int)] w' fun e w'' => ∃ gw, e = .returned (.tuple #[.pointer (some ⟨gw, 0, none⟩), .int .i64 0]) ∧ Below W.heap.size W w'') := Lib.hid (fun w' b => (NewParter_h (w := w') k k6).mono fun e w'' ⟨g, h1, h2⟩ => ⟨g, h1, b.trans (h2.mono b.size)⟩)
    go_enter Tryd.func5, Tryd.ntmps5
    go_wp2_with fail
    refine (LV.out _ (Below.refl _ _)).mono ?_
    rintro e1 w1 ⟨rfl, b1⟩
    have B1 := Lib.hid b1
    clear b1
    go_wp2_with fail
    refine (NC.out _ B1.out).mono ?_
    rintro e2 w2 ⟨g2, rfl, b2⟩
    have B2 := Lib.hid b2
    clear b2 B1
    go_wp2_with fail
    refine (PC.out _ B2.out).mono ?_
    rintro e3 w3 ⟨g3, rfl, b3⟩
    have B3 := Lib.hid b3
    clear b3 B2 hn
    go_wp2_with fail
    refine (Title_nil _ _).mono ?_
    rintro e4 w4 ⟨rfl, rfl⟩
    go_wp2_with fail
    refine (Part_nil _ _ _ _).mono ?_
    rintro e5 w5 ⟨rfl, rfl⟩
    go_wp2_with fail
    refine (Weave_nil _ _ _ _).mono ?_
    rintro e6 w6 ⟨rfl, rfl⟩
    go_wp2_with fail
    refine (Bytes_nil _).mono ?_
    rintro e7 w7 ⟨rfl, rfl⟩
    go_wp2_with fail
    go_ret
    exact ⟨rfl, B3.out⟩
  · have NC := Lib.hid (fun w' => New_bad (w := w') n (by omega))
    have PC := Lib.hid (fun w' => NewParter_bad (w := w') n (by omega))
    rcases (show n < 0 ∨ (0 ≤ n ∧ 65536 < n) by omega) with hlt | ⟨h0, hgt⟩
    · have d1 : decide ((0 : Int) ≤ n) = false := decide_eq_false (by omega)
      go_enter Tryd.func5, Tryd.ntmps5
      go_wp2_with fail
      refine (LV.out _ (Below.refl _ _)).mono ?_
      rintro e1 w1 ⟨rfl, b1⟩
      have B1 := Lib.hid b1
      clear b1
      go_wp2_with fail
      refine (NC.out _).mono ?_
      rintro e2 w2 ⟨rfl, hw2⟩
      subst w2
      go_wp2_with fail
      refine (PC.out _).mono ?_
      rintro e3 w3 ⟨rfl, hw3⟩
      subst w3
      clear hn hlt
      go_wp2_with fail
      refine (Title_nil _ _).mono ?_
      rintro e4 w4 ⟨rfl, rfl⟩
      go_wp2_with fail
      refine (Part_nil _ _ _ _).mono ?_
      rintro e5 w5 ⟨rfl, rfl⟩
      go_wp2_with fail
      refine (Weave_nil _ _ _ _).mono ?_
      rintro e6 w6 ⟨rfl, rfl⟩
      go_wp2_with fail
      refine (Bytes_nil _).mono ?_
      rintro e7 w7 ⟨rfl, rfl⟩
      go_wp2_with fail
      go_ret
      exact ⟨rfl, B1.out⟩
    · have d1 : decide ((0 : Int) ≤ n) = true := decide_eq_true (by omega)
      have d2 : decide (n ≤ (65536 : Int)) = false := decide_eq_false (by omega)
      go_enter Tryd.func5, Tryd.ntmps5
      go_wp2_with fail
      refine (LV.out _ (Below.refl _ _)).mono ?_
      rintro e1 w1 ⟨rfl, b1⟩
      have B1 := Lib.hid b1
      clear b1
      go_wp2_with fail
      refine (NC.out _).mono ?_
      rintro e2 w2 ⟨rfl, hw2⟩
      subst w2
      go_wp2_with fail
      refine (PC.out _).mono ?_
      rintro e3 w3 ⟨rfl, hw3⟩
      subst w3
      clear hn hgt h0
      go_wp2_with fail
      refine (Title_nil _ _).mono ?_
      rintro e4 w4 ⟨rfl, rfl⟩
      go_wp2_with fail
      refine (Part_nil _ _ _ _).mono ?_
      rintro e5 w5 ⟨rfl, rfl⟩
      go_wp2_with fail
      refine (Weave_nil _ _ _ _).mono ?_
      rintro e6 w6 ⟨rfl, rfl⟩
      go_wp2_with fail
      refine (Bytes_nil _).mono ?_
      rintro e7 w7 ⟨rfl, rfl⟩
      go_wp2_with fail
      go_ret
      exact ⟨rfl, B1.out⟩
theorem args_law' (n : Int) (A : Option Addr) (m c : Nat) (xs : List Int) (W : World) (hT : Lib.Utf8Tabs 0 1 W) (hn : (Lit.int .i64 n).wf = true) (hr : IsRow .u8 W A m c xs) :
    Calls Tryd.prog 5 #[.int .i64 n, .slice A m c] W fun e w' => e = .returned (.bool true) ∧ Below W.heap.size W w' := args_law n A m c W hT
end Go.Proofs.YtdekdcleeignoaaDoor.Wv
