/- Texts of this session, merged. -/
import Derived.Test.YtngldpeapcbbpaaMln2
import Derived.Test.YtngldpeapcbbpaaRows
import Derived.Deep.Slices
import Derived.Deep.Fields
import Derived.ChangeSame
import Derived.ChangeOld
import Derived.RowKit
import Derived.OpenShut
/-
  Law 8: LappedBack, LappedLines and LappedAgain; walks. No condition.
-/
set_option linter.unusedVariables false
set_option linter.unusedSimpArgs false
namespace Go.Proofs.Ytngldpeapcbbpaa.Lap
open Go.RowKit Go.Proofs.Ytngldpeapcbbpaa Go.Proofs.Ytngldpeapcbbpaa.Bnd Go.Proofs.Ytngldpeapcbbpaa.Art Go.Proofs.YtngldpeapcbbpaaW.PrintWords

def oneLine : List Int := (List.replicate 128 (0 : Int)).set 3 1048576
theorem one_sounds : (backv 128 4 134217728 oneLine).getD 0 0 = rdv 134217728 (dot 4 (fun j => oneLine.getD j 0) 128 64) := by
  unfold backv unfv
  have h : ((List.range (2 * 128)).map (unfAt 128 (turnv 128 4 134217728 oneLine))).getD 0 0 = unfAt 128 (turnv 128 4 134217728 oneLine) 0 := by simp [List.getD]
  rw [h]
  unfold unfAt
  rw [if_pos (by decide), turnv_at _ _ _ _ _ (by decide)]
theorem one_loud : rdv 134217728 (dot 4 (fun j => oneLine.getD j 0) 128 64) ≠ 0 := by decide +kernel
theorem one_in : within 33554432 oneLine = true := by decide +kernel
theorem one_len : oneLine.length = 128 := by decide +kernel
theorem backv_len (n un : Nat) (D : Int) (x : List Int) : (backv n un D x).length = 2 * n := by simp [backv, unfv]
theorem fwdv_len (n un : Nat) (D : Int) (x : List Int) : (fwdv n un D x).length = n := by simp [fwdv, turnv_len]
theorem fwdv_at {n un : Nat} {D : Int} {x : List Int} {j : Nat} (h : j < n) : (fwdv n un D x).getD j 0 = clampv (-33554432) 33554431 (rdv D (dot un (fun j => (foldv n x).getD j 0) n j)) := by
  unfold fwdv
  rw [← turnv_at n un D (foldv n x) j h]
  simp [List.getD, List.getElem?_map, turnv_len, h]
theorem fwdv_within (n un : Nat) (D : Int) (x : List Int) : within 33554432 (fwdv n un D x) = true := by
  unfold within fwdv
  rw [List.all_eq_true]
  intro y hy
  obtain ⟨z, _, rfl⟩ := List.mem_map.1 hy
  have := clamp_bd (a := -33554432) (b := 33554431) (by decide) z
  simp
  omega
theorem fold_bd20 {n : Nat} {x : List Int} (h : ∀ j, -524288 < x.getD j 0 ∧ x.getD j 0 < 524288) (j : Nat) : -1048574 ≤ (foldv n x).getD j 0 ∧ (foldv n x).getD j 0 ≤ 1048574 := by
  by_cases hj : j < n
  · have e : (foldv n x).getD j 0 = foldAt n x j := by simp [foldv, List.getD, hj]
    rw [e]
    unfold foldAt
    split
    · have a := h (3 * (n / 2) - 1 - j)
      have b := h (3 * (n / 2) + j)
      omega
    · have a := h (j - n / 2)
      have b := h (n - 1 - (j - n / 2))
      omega
  · have e : (foldv n x).getD j 0 = 0 := by simp [foldv, List.getD, hj]
    rw [e]
    omega
theorem unf_near {n : Nat} (hn : n = 512 ∨ n = 128) {T U : List Int} {e : Int} (he : 0 ≤ e) (h : ∀ k, k < n → -e ≤ T.getD k 0 - U.getD k 0 ∧ T.getD k 0 - U.getD k 0 ≤ e) (i : Nat) (hi : i < 2 * n) : -e ≤ (unfv n T).getD i 0 - (unfv n U).getD i 0 ∧ (unfv n T).getD i 0 - (unfv n U).getD i 0 ≤ e := by
  have e1 : (unfv n T).getD i 0 = unfAt n T i := by simp [unfv, List.getD, hi]
  have e2 : (unfv n U).getD i 0 = unfAt n U i := by simp [unfv, List.getD, hi]
  rw [e1, e2]
  unfold unfAt
  split
  · exact h _ (by omega)
  · split
    · have := h (n / 2 + (n - 1 - i)) (by omega); omega
    · split
      · have := h (3 * (n / 2) - 1 - i) (by omega); omega
      · have := h (i - 3 * (n / 2)) (by omega); omega
theorem again512 {x : List Int} (hx : ∀ j, -524288 < x.getD j 0 ∧ x.getD j 0 < 524288) (i : Nat) (hi : i < 1024) : -1100 ≤ (backv 512 1 268435456 (fwdv 512 1 268435456 x)).getD i 0 - (unfv 512 (foldv 512 x)).getD i 0 ∧ (backv 512 1 268435456 (fwdv 512 1 268435456 x)).getD i 0 - (unfv 512 (foldv 512 x)).getD i 0 ≤ 1100 := by
  have ub := fold_bd20 (n := 512) hx
  unfold backv
  refine unf_near (by omega) (by decide) (fun k hk => ?_) i hi
  rw [turnv_at _ _ _ _ _ hk]
  refine twice512 (fun j => (foldv 512 x).getD j 0) (fun j => (fwdv 512 1 268435456 x).getD j 0) (fun k => rdv 268435456 (dot 1 (fun j => (fwdv 512 1 268435456 x).getD j 0) 512 k)) (fun j _ => by have := ub j; omega) (fun i hi => ?_) (fun k _ => rfl) k hk
  rw [fwdv_at hi]
  have b := dot_bd (un := 1) (n := 512) (k := i) (B := 1048574) (by decide) ub
  generalize dot 1 (fun j => (foldv 512 x).getD j 0) 512 i = S at b ⊢
  exact clamp_in (by unfold rdv; omega) (by unfold rdv; omega)
theorem again128 {x : List Int} (hx : ∀ j, -524288 < x.getD j 0 ∧ x.getD j 0 < 524288) (i : Nat) (hi : i < 256) : -1100 ≤ (backv 128 4 134217728 (fwdv 128 4 134217728 x)).getD i 0 - (unfv 128 (foldv 128 x)).getD i 0 ∧ (backv 128 4 134217728 (fwdv 128 4 134217728 x)).getD i 0 - (unfv 128 (foldv 128 x)).getD i 0 ≤ 1100 := by
  have ub := fold_bd20 (n := 128) hx
  unfold backv
  refine unf_near (by omega) (by decide) (fun k hk => ?_) i hi
  rw [turnv_at _ _ _ _ _ hk]
  refine twice128 (fun j => (foldv 128 x).getD j 0) (fun j => (fwdv 128 4 134217728 x).getD j 0) (fun k => rdv 134217728 (dot 4 (fun j => (fwdv 128 4 134217728 x).getD j 0) 128 k)) (fun j _ => by have := ub j; omega) (fun i hi => ?_) (fun k _ => rfl) k hk
  rw [fwdv_at hi]
  have b := dot_bd (un := 4) (n := 128) (k := i) (B := 1048574) (by decide) ub
  generalize dot 4 (fun j => (foldv 128 x).getD j 0) 128 i = S at b ⊢
  exact clamp_in (by unfold rdv; omega) (by unfold rdv; omega)
theorem backv_b512 {x : List Int} (h : ∀ j, -33554432 ≤ x.getD j 0 ∧ x.getD j 0 < 33554432) (i : Nat) : -2147483648 ≤ (backv 512 1 268435456 x).getD i 0 ∧ (backv 512 1 268435456 x).getD i 0 ≤ 2147483647 := by
  have tb := turn_bd512 (ys := x) (fun j => by have := h j; omega)
  by_cases hi : i < 2 * 512
  · have e : (backv 512 1 268435456 x).getD i 0 = unfAt 512 (turnv 512 1 268435456 x) i := by unfold backv unfv; rw [List.getD_eq_getElem?_getD, List.getElem?_map, List.getElem?_range hi]; rfl
    rw [e]
    unfold unfAt
    split
    · have := tb (512 / 2 + i); omega
    · split
      · have := tb (512 / 2 + (512 - 1 - i)); omega
      · split
        · have := tb (3 * (512 / 2) - 1 - i); omega
        · have := tb (i - 3 * (512 / 2)); omega
  · rw [List.getD_eq_getElem?_getD, List.getElem?_eq_none (by rw [backv_len]; omega)]
    decide
theorem fwdv_b512 {x : List Int} (h : ∀ j, -1048576 ≤ x.getD j 0 ∧ x.getD j 0 < 1048576) (i : Nat) : -2147483648 ≤ (fwdv 512 1 268435456 x).getD i 0 ∧ (fwdv 512 1 268435456 x).getD i 0 ≤ 2147483647 := by
  have := within_at (fwdv_within 512 1 268435456 x) (by decide) i
  omega
theorem backv_b128 {x : List Int} (h : ∀ j, -33554432 ≤ x.getD j 0 ∧ x.getD j 0 < 33554432) (i : Nat) : -2147483648 ≤ (backv 128 4 134217728 x).getD i 0 ∧ (backv 128 4 134217728 x).getD i 0 ≤ 2147483647 := by
  have tb := turn_bd128 (ys := x) (fun j => by have := h j; omega)
  by_cases hi : i < 2 * 128
  · have e : (backv 128 4 134217728 x).getD i 0 = unfAt 128 (turnv 128 4 134217728 x) i := by unfold backv unfv; rw [List.getD_eq_getElem?_getD, List.getElem?_map, List.getElem?_range hi]; rfl
    rw [e]
    unfold unfAt
    split
    · have := tb (128 / 2 + i); omega
    · split
      · have := tb (128 / 2 + (128 - 1 - i)); omega
      · split
        · have := tb (3 * (128 / 2) - 1 - i); omega
        · have := tb (i - 3 * (128 / 2)); omega
  · rw [List.getD_eq_getElem?_getD, List.getElem?_eq_none (by rw [backv_len]; omega)]
    decide
theorem fwdv_b128 {x : List Int} (h : ∀ j, -1048576 ≤ x.getD j 0 ∧ x.getD j 0 < 1048576) (i : Nat) : -2147483648 ≤ (fwdv 128 4 134217728 x).getD i 0 ∧ (fwdv 128 4 134217728 x).getD i 0 ≤ 2147483647 := by
  have := within_at (fwdv_within 128 4 134217728 x) (by decide) i
  omega
attribute [local irreducible] cosv wgt qt QT oneLine turnv backv fwdv fillv
theorem New_h {W w : World} {l : List Ast} (H : Hp W w l) : Calls Try.prog 16 #[] w fun e w' => ∃ g, e = .returned (.pointer (some ⟨g, 0, none⟩)) ∧ Hp W w' l ∧ Circ w' g := by
  refine (New_calls w).mono ?_
  rintro e w' ⟨g, hg, rfl, hb, b⟩
  exact ⟨g, rfl, H.keep b, hb⟩
set_option maxHeartbeats 1000000 in
set_option maxRecDepth 100000 in
theorem lives_calls (w : World) : Calls Try.prog 13 #[] w fun e w' => e = .returned (.bool true) ∧ Below w.heap.size w w' := by
  have hm := mk32 128 (by decide)
  rw [show ((128 : Nat) : Int) = 128 from rfl] at hm
  go_enter Try.func13, Try.ntmps13
  go_wp2_with fail
  refine (New_h (Hp.nil w)).mono ?_
  rintro e1 w1 ⟨g, rfl, h1, hc⟩
  have H1 := Lib.hid h1
  have HC := Lib.hid hc
  clear h1 hc
  go_wp2_with fail
  refine (New_yes HC.out 128 4 27 (.inl ⟨rfl, rfl, rfl⟩)).mono ?_
  rintro e2 w2 ⟨t, rfl, ht, hl, b2⟩
  have H2 := Lib.hid (H1.out.keep b2)
  have HL := Lib.hid hl
  have tl := hl.blk.lt
  clear hl b2 HC H1 ht
  have H3 := Lib.hid (H2.out.new_row 21 .i32 128 0 (by decide))
  have B3 : Hid (Below w2.heap.size w2 (w2.alloc (.cells (madeCells #[.int .i32 0] 128) 21))) := Lib.hid ((Below.refl _ _).alloc (Nat.le_refl _) _)
  have K1 := Lib.hid one_in
  go_upto_region 2 with fail
  go_cut [3] (fun u wc => u = .slice (some ⟨w2.heap.size, 0, none⟩) 128 128 ∧ Hid (Hp w wc [rowA 21 .i32 w2.heap.size 128 (List.replicate 128 0)]) ∧ Hid (Below w2.heap.size w2 wc))
  case first =>
    go_wp2
    go_meet
    exact ⟨rfl, H3, B3⟩
  case rest =>
    clear H3 B3
    obtain ⟨rfl, H3, B3⟩ := hcut
    have fr := H3.out.row.free 3
    have fc := H3.out.row.cell (i := 3) (by simp)
    have h4 := H3.out.set 3 1048576
    rw [show (List.replicate 128 (0 : Int)).set 3 1048576 = oneLine by unfold oneLine; rfl] at h4
    have H4 := Lib.hid h4
    have B4 : Hid (Below w2.heap.size w2 (wc.setCell ⟨w2.heap.size, 3, none⟩ (.int .i32 1048576))) := Lib.hid (B3.out.setCell (Nat.le_refl _) _)
    clear h4
    go_wp2_with fail
    refine (Back128 (HL.out.below B4.out) (by have := Src.of_sl (Sl.row H4.out.row); rw [one_len] at this; exact this) one_len K1.out).mono ?_
    rintro e3 w3 ⟨g3, rfl, hg3, hr3, b3⟩
    have c0 := hr3.cell (i := 0) (by rw [backv_len]; decide)
    have ev : (backv 128 4 134217728 oneLine)[0]'(by rw [backv_len]; decide) = (backv 128 4 134217728 oneLine).getD 0 0 := by
      rw [List.getD_eq_getElem?_getD, List.getElem?_eq_getElem (by rw [backv_len]; decide)]; rfl
    rw [ev, one_sounds] at c0
    have nz := one_loud
    obtain ⟨y, hy⟩ : ∃ y, rdv 134217728 (dot 4 (fun j => oneLine.getD j 0) 128 64) = y := ⟨_, rfl⟩
    rw [hy] at c0 nz
    have n1 : (y == 0) = false := by rw [beq_eq_false_iff_ne]; exact nz
    have n2 : (y != 0) = true := by rw [bne, n1]; rfl
    have B5 := Lib.hid (H4.out.b.trans (b3.mono (H4.out.size)))
    clear hy ev hr3 b3
    go_wp2_with fail
    go_ret
    exact ⟨rfl, B5.out⟩
/-- A circle, and a transform over it, as objects. -/
abbrev circA (g : Nat) : Ast := blkA g 77 (vals .i32 (fillTo cv 4096 4096))
abbrev lapA (t c : Nat) (n un b : Int) : Ast := blkA t 74 #[.pointer (some ⟨c, 0, none⟩), .int .i64 n, .int .i64 un, .int .i64 b]
theorem Hp_lap {W w : World} {l : List Ast} {t c : Nat} {n un b : Int} (H : Hp W w (lapA t c n un b :: circA c :: l)) : IsLap w t c n un b := ⟨H.blk, H.drop.blk⟩
theorem Circ_h {W w : World} {l : List Ast} (H : Hp W w l) : Calls Try.prog 16 #[] w fun e w' => ∃ g, e = .returned (.pointer (some ⟨g, 0, none⟩)) ∧ Hp W w' (circA g :: l) := by
  refine (New_calls w).mono ?_
  rintro e w' ⟨g, hg, rfl, hb, b⟩
  exact ⟨g, rfl, H.new b (A' := circA g) ⟨hb, rfl⟩ (fun k hk => by subst hk; exact hg)⟩
theorem Lap_h {W w : World} {l : List Ast} {c : Nat} (H : Hp W w (circA c :: l)) (n un b : Int) (hn : (n = 128 ∧ un = 4 ∧ b = 27) ∨ (n = 512 ∧ un = 1 ∧ b = 28)) : Calls Try.prog 15 #[.int .i64 n, .pointer (some ⟨c, 0, none⟩)] w fun e w' => ∃ t, e = .returned (.tuple #[.pointer (some ⟨t, 0, none⟩), .int .i64 0]) ∧ Hp W w' (lapA t c n un b :: circA c :: l) := by
  refine (New_yes H.blk n un b hn).mono ?_
  rintro e w' ⟨t, rfl, ht, h, hb⟩
  exact ⟨t, rfl, H.new hb (A' := lapA t c n un b) ⟨h.blk, rfl⟩ (fun k hk => by subst hk; exact ht)⟩
theorem Quarter_h {W w : World} {l : List Ast} (H : Hp W w l) : Calls Try.prog 21 #[] w fun e w' => ∃ g cap, e = .returned (.slice (some ⟨g, 0, none⟩) 1025 cap) ∧ w.heap.size ≤ g ∧ Hp W w' (rowA 2 .i64 g cap QT :: l) := by
  refine (quarter_row' w).mono ?_
  rintro e w' ⟨g, cap, rfl, hg, hr, hb⟩
  exact ⟨g, cap, by rw [QT_length], hg, H.add_row hb hr hg⟩
theorem i32_bd {W : World} {a0 : Option Addr} {len0 cap0 : Nat} {z0 : List Int} (h : IsRow .i32 W a0 len0 cap0 z0) (j : Nat) : -2147483648 ≤ (z0.take len0).getD j 0 ∧ (z0.take len0).getD j 0 ≤ 2147483647 := by
  by_cases hj : j < (z0.take len0).length
  · have := h.wf _ (List.getElem_mem hj)
    simp only [Lit.wf, Bool.and_eq_true, decide_eq_true_eq] at this
    have e1 : IntKind.min .i32 = -2147483648 := by decide
    have e2 : IntKind.max .i32 = 2147483647 := by decide
    rw [e1, e2] at this
    rw [List.getD_eq_getElem?_getD, List.getElem?_eq_getElem hj]
    exact this
  · rw [List.getD_eq_getElem?_getD, List.getElem?_eq_none (by omega)]
    decide
set_option maxHeartbeats 2000000 in
set_option maxRecDepth 100000 in
theorem back_law (a0 : Option Addr) (len0 cap0 : Nat) (z0 : List Int) (b : Bool) (W : World) (h0 : IsRow .i32 W a0 len0 cap0 z0) (y0 : len0 * 4 ≤ 140737488351232) :
    Calls Try.prog 3 #[.slice a0 len0 cap0, .bool b] W fun e w' => e = .returned (.bool true) ∧ Below W.heap.size W w' := by
  by_cases hs : 2000 < len0
  · have k1 : decide ((2000 : Int) < (len0 : Int)) = true := decide_eq_true (by omega)
    go_enter Try.func3, Try.ntmps3
    go_wp2_with fail
    refine (lives_calls _).mono ?_
    rintro e1 w1 ⟨rfl, b1⟩
    have H1 : Hid (Hp W w1 []) := Lib.hid ((Hp.nil W).keep b1)
    clear b1
    go_wp2_with fail
    refine (lives_calls _).mono ?_
    rintro e2 w2 ⟨rfl, b2⟩
    have H2 := Lib.hid (H1.out.keep b2)
    clear b2
    go_wp2_with fail
    go_ret
    exact ⟨rfl, H2.out.b⟩
  have k1 : decide ((2000 : Int) < (len0 : Int)) = false := decide_eq_false (by omega)
  have RD := Lib.hid h0.src
  have LN := Lib.hid h0.take_len
  have B32 := Lib.hid (i32_bd h0)
  clear h0 y0
  generalize z0.take len0 = ys at *
  cases b
  · go_enter Try.func3, Try.ntmps3
    go_wp2_with fail
    refine (lives_calls _).mono ?_
    rintro e1 w1 ⟨rfl, b1⟩
    have H1 : Hid (Hp W w1 []) := Lib.hid ((Hp.nil W).keep b1)
    clear b1
    go_wp2_with fail
    refine (size_calls false _).mono ?_
    rintro e2 w2 ⟨rfl, he⟩
    subst w2
    rw [show (if false = true then (512 : Int) else 128) = 128 from rfl]
    go_wp2_with fail
    refine (Circ_h H1.out).mono ?_
    rintro e2 w2 ⟨g, rfl, h2⟩
    have H2 := Lib.hid h2
    clear h2 H1
    go_wp2_with fail
    refine (Lap_h H2.out 128 4 27 (.inl ⟨rfl, rfl, rfl⟩)).mono ?_
    rintro e3 w3 ⟨t, rfl, h3⟩
    have H3 := Lib.hid h3
    clear h3 H2
    go_wp2_with fail
    refine (fill26 H3.out (Rd.arg RD.out) LN.out (by omega) B32.out 128 (by decide)).mono ?_
    rintro e4 w4 ⟨v1, v2, rfl, h4⟩
    obtain ⟨X, hX⟩ : ∃ X, fillv ys 33554432 128 = X := ⟨_, rfl⟩
    have xl : X.length = 128 := by rw [← hX]; exact fillv_len _ _ _
    have xw : within 33554432 X = true := by rw [← hX]; exact fillv_within ys (by decide) _
    have xb : ∀ j, -33554432 ≤ X.getD j 0 ∧ X.getD j 0 < 33554432 := within_at xw (by decide)
    rw [hX] at h4
    obtain ⟨A1, c1, rfl, _⟩ := h4.sl.form
    obtain ⟨A2, c2, rfl, _⟩ := h4.up1.sl.form
    rw [xl] at h4
    have H4 := Lib.hid h4
    have XL := Lib.hid xl
    have XW := Lib.hid xw
    have XB := Lib.hid xb
    clear hX h4 H3 xl xw xb
    rw [XL.out]
    have S0 := Lib.hid (Sl_empty w4 21 .i32)
    have S1 : Hid (Src (w4.alloc (.cells #[] 21)) .i32 (.slice A1 128 c1) X) := Lib.hid (Src.of_sl (H4.out.alloc _).sl)
    have XC : Hid (X.length ≤ 2000) := Lib.hid (by rw [XL.out]; decide)
    go_wp2_with (at_builtin; refine wpList_add (.tmp 35) (.tmp 36) 22 21 .i32 0 4 rfl rfl Try.underlying22 info_i32 _ _ [] X rfl rfl S0.out S1.out (by have := XC.out; simp; omega) (by have := XC.out; simp; omega) ?_
                 intro v5 w5 hp
                 have bf := added_fresh hp
                 have sl5 := hp.sl
                 rw [List.nil_append] at sl5
                 have h5 := H4.out.add_sl bf.1 sl5 bf.2
                 obtain ⟨A5, c5, rfl, _⟩ := h5.sl.form
                 have H5 := Lib.hid h5
                 clear hp bf h5 sl5 S0 S1)
    rw [XL.out]
    rw [XL.out] at H5
    refine (Back128 (Hp_lap (H5.out.pk [3, 3])) (Src.of_sl H5.out.sl) XL.out XW.out).mono ?_
    rintro e6 w6 ⟨g6, rfl, hg6, hr6, b6⟩
    have H6 := Lib.hid (H5.out.add_row b6 hr6 hg6)
    clear hg6 hr6 b6 H4
    go_wp2_with fail
    refine (Quarter_h H6.out).mono ?_
    rintro e7 w7 ⟨g7, c7, rfl, hg7, h7⟩
    have H7 := Lib.hid h7
    clear h7 H6 hg7
    go_wp2_with fail
    refine (rBack128 (by have := Src.of_sl (Sl.row H7.out.row); rw [QT_length] at this; exact this) (Src.of_sl H7.out.up4.sl) XL.out XB.out).mono ?_
    rintro e8 w8 ⟨g8, rfl, hg8, hr8, b8⟩
    have H8 := Lib.hid (H7.out.add_row b8 hr8 hg8)
    clear hg8 hr8 b8 H7
    have RB := Lib.hid (backv_b128 (x := X) XB.out)
    have RL : Hid ((backv 128 4 134217728 X).length = 256) := Lib.hid (by rw [backv_len])
    go_wp2_with fail
    refine (same_yes (by have := Src.of_sl (Sl.row H8.out.up2.row); rw [RL.out] at this; exact this) (by have := Src.of_sl (Sl.row H8.out.row); rw [RL.out] at this; exact this) RL.out (by decide) RB.out).mono ?_
    rintro e9 w9 ⟨rfl, q9, rfl⟩
    have H9 := Lib.hid (H8.out.drewN q9)
    clear H8
    go_wp2_with fail
    refine (same_yes (Src.of_sl H9.out.up3.sl) (Src.of_sl H9.out.up5.sl) XL.out (by decide) (fun j => by have := XB.out j; omega)).mono ?_
    rintro e10 w10 ⟨rfl, q10, rfl⟩
    have H10 := Lib.hid (H9.out.drewN q10)
    clear H9
    have hb := H10.out.b
    rw [World.drewN_drewN] at hb
    have HB := Lib.hid hb
    clear hb
    go_wp2_with fail
    go_ret
    exact ⟨rfl, HB.out⟩
  · go_enter Try.func3, Try.ntmps3
    go_wp2_with fail
    refine (lives_calls _).mono ?_
    rintro e1 w1 ⟨rfl, b1⟩
    have H1 : Hid (Hp W w1 []) := Lib.hid ((Hp.nil W).keep b1)
    clear b1
    go_wp2_with fail
    refine (size_calls true _).mono ?_
    rintro e2 w2 ⟨rfl, he⟩
    subst w2
    rw [show (if true = true then (512 : Int) else 128) = 512 from rfl]
    go_wp2_with fail
    refine (Circ_h H1.out).mono ?_
    rintro e2 w2 ⟨g, rfl, h2⟩
    have H2 := Lib.hid h2
    clear h2 H1
    go_wp2_with fail
    refine (Lap_h H2.out 512 1 28 (.inr ⟨rfl, rfl, rfl⟩)).mono ?_
    rintro e3 w3 ⟨t, rfl, h3⟩
    have H3 := Lib.hid h3
    clear h3 H2
    go_wp2_with fail
    refine (fill26 H3.out (Rd.arg RD.out) LN.out (by omega) B32.out 512 (by decide)).mono ?_
    rintro e4 w4 ⟨v1, v2, rfl, h4⟩
    obtain ⟨X, hX⟩ : ∃ X, fillv ys 33554432 512 = X := ⟨_, rfl⟩
    have xl : X.length = 512 := by rw [← hX]; exact fillv_len _ _ _
    have xw : within 33554432 X = true := by rw [← hX]; exact fillv_within ys (by decide) _
    have xb : ∀ j, -33554432 ≤ X.getD j 0 ∧ X.getD j 0 < 33554432 := within_at xw (by decide)
    rw [hX] at h4
    obtain ⟨A1, c1, rfl, _⟩ := h4.sl.form
    obtain ⟨A2, c2, rfl, _⟩ := h4.up1.sl.form
    rw [xl] at h4
    have H4 := Lib.hid h4
    have XL := Lib.hid xl
    have XW := Lib.hid xw
    have XB := Lib.hid xb
    clear hX h4 H3 xl xw xb
    rw [XL.out]
    have S0 := Lib.hid (Sl_empty w4 21 .i32)
    have S1 : Hid (Src (w4.alloc (.cells #[] 21)) .i32 (.slice A1 512 c1) X) := Lib.hid (Src.of_sl (H4.out.alloc _).sl)
    have XC : Hid (X.length ≤ 2000) := Lib.hid (by rw [XL.out]; decide)
    go_wp2_with (at_builtin; refine wpList_add (.tmp 35) (.tmp 36) 22 21 .i32 0 4 rfl rfl Try.underlying22 info_i32 _ _ [] X rfl rfl S0.out S1.out (by have := XC.out; simp; omega) (by have := XC.out; simp; omega) ?_
                 intro v5 w5 hp
                 have bf := added_fresh hp
                 have sl5 := hp.sl
                 rw [List.nil_append] at sl5
                 have h5 := H4.out.add_sl bf.1 sl5 bf.2
                 obtain ⟨A5, c5, rfl, _⟩ := h5.sl.form
                 have H5 := Lib.hid h5
                 clear hp bf h5 sl5 S0 S1)
    rw [XL.out]
    rw [XL.out] at H5
    refine (Back512 (Hp_lap (H5.out.pk [3, 3])) (Src.of_sl H5.out.sl) XL.out XW.out).mono ?_
    rintro e6 w6 ⟨g6, rfl, hg6, hr6, b6⟩
    have H6 := Lib.hid (H5.out.add_row b6 hr6 hg6)
    clear hg6 hr6 b6 H4
    go_wp2_with fail
    refine (Quarter_h H6.out).mono ?_
    rintro e7 w7 ⟨g7, c7, rfl, hg7, h7⟩
    have H7 := Lib.hid h7
    clear h7 H6 hg7
    go_wp2_with fail
    refine (rBack512 (by have := Src.of_sl (Sl.row H7.out.row); rw [QT_length] at this; exact this) (Src.of_sl H7.out.up4.sl) XL.out XB.out).mono ?_
    rintro e8 w8 ⟨g8, rfl, hg8, hr8, b8⟩
    have H8 := Lib.hid (H7.out.add_row b8 hr8 hg8)
    clear hg8 hr8 b8 H7
    have RB := Lib.hid (backv_b512 (x := X) XB.out)
    have RL : Hid ((backv 512 1 268435456 X).length = 1024) := Lib.hid (by rw [backv_len])
    go_wp2_with fail
    refine (same_yes (by have := Src.of_sl (Sl.row H8.out.up2.row); rw [RL.out] at this; exact this) (by have := Src.of_sl (Sl.row H8.out.row); rw [RL.out] at this; exact this) RL.out (by decide) RB.out).mono ?_
    rintro e9 w9 ⟨rfl, q9, rfl⟩
    have H9 := Lib.hid (H8.out.drewN q9)
    clear H8
    go_wp2_with fail
    refine (same_yes (Src.of_sl H9.out.up3.sl) (Src.of_sl H9.out.up5.sl) XL.out (by decide) (fun j => by have := XB.out j; omega)).mono ?_
    rintro e10 w10 ⟨rfl, q10, rfl⟩
    have H10 := Lib.hid (H9.out.drewN q10)
    clear H9
    have hb := H10.out.b
    rw [World.drewN_drewN] at hb
    have HB := Lib.hid hb
    clear hb
    go_wp2_with fail
    go_ret
    exact ⟨rfl, HB.out⟩
set_option maxHeartbeats 2000000 in
set_option maxRecDepth 100000 in
theorem lines_law (a0 : Option Addr) (len0 cap0 : Nat) (z0 : List Int) (b : Bool) (W : World) (h0 : IsRow .i32 W a0 len0 cap0 z0) (y0 : len0 * 4 ≤ 140737488351232) :
    Calls Try.prog 4 #[.slice a0 len0 cap0, .bool b] W fun e w' => e = .returned (.bool true) ∧ Below W.heap.size W w' := by
  by_cases hs : 2000 < len0
  · have k1 : decide ((2000 : Int) < (len0 : Int)) = true := decide_eq_true (by omega)
    go_enter Try.func4, Try.ntmps4
    go_wp2_with fail
    refine (lives_calls _).mono ?_
    rintro e1 w1 ⟨rfl, b1⟩
    have H1 : Hid (Hp W w1 []) := Lib.hid ((Hp.nil W).keep b1)
    clear b1
    go_wp2_with fail
    refine (lives_calls _).mono ?_
    rintro e2 w2 ⟨rfl, b2⟩
    have H2 := Lib.hid (H1.out.keep b2)
    clear b2
    go_wp2_with fail
    go_ret
    exact ⟨rfl, H2.out.b⟩
  have k1 : decide ((2000 : Int) < (len0 : Int)) = false := decide_eq_false (by omega)
  have RD := Lib.hid h0.src
  have LN := Lib.hid h0.take_len
  have B32 := Lib.hid (i32_bd h0)
  clear h0 y0
  generalize z0.take len0 = ys at *
  cases b
  · go_enter Try.func4, Try.ntmps4
    go_wp2_with fail
    refine (lives_calls _).mono ?_
    rintro e1 w1 ⟨rfl, b1⟩
    have H1 : Hid (Hp W w1 []) := Lib.hid ((Hp.nil W).keep b1)
    clear b1
    go_wp2_with fail
    refine (size_calls false _).mono ?_
    rintro e2 w2 ⟨rfl, he⟩
    subst w2
    rw [show (if false = true then (512 : Int) else 128) = 128 from rfl]
    go_wp2_with fail
    refine (Circ_h H1.out).mono ?_
    rintro e2 w2 ⟨g, rfl, h2⟩
    have H2 := Lib.hid h2
    clear h2 H1
    go_wp2_with fail
    refine (Lap_h H2.out 128 4 27 (.inl ⟨rfl, rfl, rfl⟩)).mono ?_
    rintro e3 w3 ⟨t, rfl, h3⟩
    have H3 := Lib.hid h3
    clear h3 H2
    go_wp2_with fail
    refine (fill21 H3.out (Rd.arg RD.out) LN.out (by omega) B32.out 256 (by decide)).mono ?_
    rintro e4 w4 ⟨v1, v2, rfl, h4⟩
    obtain ⟨X, hX⟩ : ∃ X, fillv ys 1048576 256 = X := ⟨_, rfl⟩
    have xl : X.length = 256 := by rw [← hX]; exact fillv_len _ _ _
    have xw : within 1048576 X = true := by rw [← hX]; exact fillv_within ys (by decide) _
    have xb : ∀ j, -1048576 ≤ X.getD j 0 ∧ X.getD j 0 < 1048576 := within_at xw (by decide)
    rw [hX] at h4
    obtain ⟨A1, c1, rfl, _⟩ := h4.sl.form
    obtain ⟨A2, c2, rfl, _⟩ := h4.up1.sl.form
    rw [xl] at h4
    have H4 := Lib.hid h4
    have XL := Lib.hid xl
    have XW := Lib.hid xw
    have XB := Lib.hid xb
    clear hX h4 H3 xl xw xb
    rw [XL.out]
    have S0 := Lib.hid (Sl_empty w4 21 .i32)
    have S1 : Hid (Src (w4.alloc (.cells #[] 21)) .i32 (.slice A1 256 c1) X) := Lib.hid (Src.of_sl (H4.out.alloc _).sl)
    have XC : Hid (X.length ≤ 2000) := Lib.hid (by rw [XL.out]; decide)
    go_wp2_with (at_builtin; refine wpList_add (.tmp 36) (.tmp 37) 22 21 .i32 0 4 rfl rfl Try.underlying22 info_i32 _ _ [] X rfl rfl S0.out S1.out (by have := XC.out; simp; omega) (by have := XC.out; simp; omega) ?_
                 intro v5 w5 hp
                 have bf := added_fresh hp
                 have sl5 := hp.sl
                 rw [List.nil_append] at sl5
                 have h5 := H4.out.add_sl bf.1 sl5 bf.2
                 obtain ⟨A5, c5, rfl, _⟩ := h5.sl.form
                 have H5 := Lib.hid h5
                 clear hp bf h5 sl5 S0 S1)
    rw [XL.out]
    rw [XL.out] at H5
    refine (Forward128 (Hp_lap (H5.out.pk [3, 3])) (Src.of_sl H5.out.sl) XL.out XW.out).mono ?_
    rintro e6 w6 ⟨g6, rfl, hg6, hr6, b6⟩
    have H6 := Lib.hid (H5.out.add_row b6 hr6 hg6)
    clear hg6 hr6 b6 H4
    go_wp2_with fail
    refine (Quarter_h H6.out).mono ?_
    rintro e7 w7 ⟨g7, c7, rfl, hg7, h7⟩
    have H7 := Lib.hid h7
    clear h7 H6 hg7
    go_wp2_with fail
    refine (rForward128 (by have := Src.of_sl (Sl.row H7.out.row); rw [QT_length] at this; exact this) (Src.of_sl H7.out.up4.sl) XL.out XB.out).mono ?_
    rintro e8 w8 ⟨g8, rfl, hg8, hr8, b8⟩
    have H8 := Lib.hid (H7.out.add_row b8 hr8 hg8)
    clear hg8 hr8 b8 H7
    have RB := Lib.hid (fwdv_b128 (x := X) XB.out)
    have RL : Hid ((fwdv 128 4 134217728 X).length = 128) := Lib.hid (by rw [fwdv_len])
    go_wp2_with fail
    refine (same_yes (by have := Src.of_sl (Sl.row H8.out.up2.row); rw [RL.out] at this; exact this) (by have := Src.of_sl (Sl.row H8.out.row); rw [RL.out] at this; exact this) RL.out (by decide) RB.out).mono ?_
    rintro e9 w9 ⟨rfl, q9, rfl⟩
    have H9 := Lib.hid (H8.out.drewN q9)
    clear H8
    go_wp2_with fail
    refine (same_yes (Src.of_sl H9.out.up3.sl) (Src.of_sl H9.out.up5.sl) XL.out (by decide) (fun j => by have := XB.out j; omega)).mono ?_
    rintro e10 w10 ⟨rfl, q10, rfl⟩
    have H10 := Lib.hid (H9.out.drewN q10)
    clear H9
    have hb := H10.out.b
    rw [World.drewN_drewN] at hb
    have HB := Lib.hid hb
    clear hb
    go_wp2_with fail
    go_ret
    exact ⟨rfl, HB.out⟩
  · go_enter Try.func4, Try.ntmps4
    go_wp2_with fail
    refine (lives_calls _).mono ?_
    rintro e1 w1 ⟨rfl, b1⟩
    have H1 : Hid (Hp W w1 []) := Lib.hid ((Hp.nil W).keep b1)
    clear b1
    go_wp2_with fail
    refine (size_calls true _).mono ?_
    rintro e2 w2 ⟨rfl, he⟩
    subst w2
    rw [show (if true = true then (512 : Int) else 128) = 512 from rfl]
    go_wp2_with fail
    refine (Circ_h H1.out).mono ?_
    rintro e2 w2 ⟨g, rfl, h2⟩
    have H2 := Lib.hid h2
    clear h2 H1
    go_wp2_with fail
    refine (Lap_h H2.out 512 1 28 (.inr ⟨rfl, rfl, rfl⟩)).mono ?_
    rintro e3 w3 ⟨t, rfl, h3⟩
    have H3 := Lib.hid h3
    clear h3 H2
    go_wp2_with fail
    refine (fill21 H3.out (Rd.arg RD.out) LN.out (by omega) B32.out 1024 (by decide)).mono ?_
    rintro e4 w4 ⟨v1, v2, rfl, h4⟩
    obtain ⟨X, hX⟩ : ∃ X, fillv ys 1048576 1024 = X := ⟨_, rfl⟩
    have xl : X.length = 1024 := by rw [← hX]; exact fillv_len _ _ _
    have xw : within 1048576 X = true := by rw [← hX]; exact fillv_within ys (by decide) _
    have xb : ∀ j, -1048576 ≤ X.getD j 0 ∧ X.getD j 0 < 1048576 := within_at xw (by decide)
    rw [hX] at h4
    obtain ⟨A1, c1, rfl, _⟩ := h4.sl.form
    obtain ⟨A2, c2, rfl, _⟩ := h4.up1.sl.form
    rw [xl] at h4
    have H4 := Lib.hid h4
    have XL := Lib.hid xl
    have XW := Lib.hid xw
    have XB := Lib.hid xb
    clear hX h4 H3 xl xw xb
    rw [XL.out]
    have S0 := Lib.hid (Sl_empty w4 21 .i32)
    have S1 : Hid (Src (w4.alloc (.cells #[] 21)) .i32 (.slice A1 1024 c1) X) := Lib.hid (Src.of_sl (H4.out.alloc _).sl)
    have XC : Hid (X.length ≤ 2000) := Lib.hid (by rw [XL.out]; decide)
    go_wp2_with (at_builtin; refine wpList_add (.tmp 36) (.tmp 37) 22 21 .i32 0 4 rfl rfl Try.underlying22 info_i32 _ _ [] X rfl rfl S0.out S1.out (by have := XC.out; simp; omega) (by have := XC.out; simp; omega) ?_
                 intro v5 w5 hp
                 have bf := added_fresh hp
                 have sl5 := hp.sl
                 rw [List.nil_append] at sl5
                 have h5 := H4.out.add_sl bf.1 sl5 bf.2
                 obtain ⟨A5, c5, rfl, _⟩ := h5.sl.form
                 have H5 := Lib.hid h5
                 clear hp bf h5 sl5 S0 S1)
    rw [XL.out]
    rw [XL.out] at H5
    refine (Forward512 (Hp_lap (H5.out.pk [3, 3])) (Src.of_sl H5.out.sl) XL.out XW.out).mono ?_
    rintro e6 w6 ⟨g6, rfl, hg6, hr6, b6⟩
    have H6 := Lib.hid (H5.out.add_row b6 hr6 hg6)
    clear hg6 hr6 b6 H4
    go_wp2_with fail
    refine (Quarter_h H6.out).mono ?_
    rintro e7 w7 ⟨g7, c7, rfl, hg7, h7⟩
    have H7 := Lib.hid h7
    clear h7 H6 hg7
    go_wp2_with fail
    refine (rForward512 (by have := Src.of_sl (Sl.row H7.out.row); rw [QT_length] at this; exact this) (Src.of_sl H7.out.up4.sl) XL.out XB.out).mono ?_
    rintro e8 w8 ⟨g8, rfl, hg8, hr8, b8⟩
    have H8 := Lib.hid (H7.out.add_row b8 hr8 hg8)
    clear hg8 hr8 b8 H7
    have RB := Lib.hid (fwdv_b512 (x := X) XB.out)
    have RL : Hid ((fwdv 512 1 268435456 X).length = 512) := Lib.hid (by rw [fwdv_len])
    go_wp2_with fail
    refine (same_yes (by have := Src.of_sl (Sl.row H8.out.up2.row); rw [RL.out] at this; exact this) (by have := Src.of_sl (Sl.row H8.out.row); rw [RL.out] at this; exact this) RL.out (by decide) RB.out).mono ?_
    rintro e9 w9 ⟨rfl, q9, rfl⟩
    have H9 := Lib.hid (H8.out.drewN q9)
    clear H8
    go_wp2_with fail
    refine (same_yes (Src.of_sl H9.out.up3.sl) (Src.of_sl H9.out.up5.sl) XL.out (by decide) (fun j => by have := XB.out j; omega)).mono ?_
    rintro e10 w10 ⟨rfl, q10, rfl⟩
    have H10 := Lib.hid (H9.out.drewN q10)
    clear H9
    have hb := H10.out.b
    rw [World.drewN_drewN] at hb
    have HB := Lib.hid hb
    clear hb
    go_wp2_with fail
    go_ret
    exact ⟨rfl, HB.out⟩
set_option maxHeartbeats 2000000 in
set_option maxRecDepth 100000 in
theorem again_law (a0 : Option Addr) (len0 cap0 : Nat) (z0 : List Int) (b : Bool) (W : World) (h0 : IsRow .i32 W a0 len0 cap0 z0) (y0 : len0 * 4 ≤ 140737488351232) :
    Calls Try.prog 5 #[.slice a0 len0 cap0, .bool b] W fun e w' => e = .returned (.bool true) ∧ Below W.heap.size W w' := by
  by_cases hs : 2000 < len0
  · have k1 : decide ((2000 : Int) < (len0 : Int)) = true := decide_eq_true (by omega)
    go_enter Try.func5, Try.ntmps5
    go_wp2_with fail
    refine (lives_calls _).mono ?_
    rintro e1 w1 ⟨rfl, b1⟩
    have H1 : Hid (Hp W w1 []) := Lib.hid ((Hp.nil W).keep b1)
    clear b1
    go_wp2_with fail
    refine (lives_calls _).mono ?_
    rintro e2 w2 ⟨rfl, b2⟩
    have H2 := Lib.hid (H1.out.keep b2)
    clear b2
    go_wp2_with fail
    go_ret
    exact ⟨rfl, H2.out.b⟩
  have k1 : decide ((2000 : Int) < (len0 : Int)) = false := decide_eq_false (by omega)
  have RD := Lib.hid h0.src
  have LN := Lib.hid h0.take_len
  have B32 := Lib.hid (i32_bd h0)
  clear h0 y0
  generalize z0.take len0 = ys at *
  cases b
  · go_enter Try.func5, Try.ntmps5
    go_wp2_with fail
    refine (lives_calls _).mono ?_
    rintro e1 w1 ⟨rfl, b1⟩
    have H1 : Hid (Hp W w1 []) := Lib.hid ((Hp.nil W).keep b1)
    clear b1
    go_wp2_with fail
    refine (size_calls false _).mono ?_
    rintro e2 w2 ⟨rfl, he⟩
    subst w2
    rw [show (if false = true then (512 : Int) else 128) = 128 from rfl]
    go_wp2_with fail
    refine (Circ_h H1.out).mono ?_
    rintro e2 w2 ⟨g, rfl, h2⟩
    have H2 := Lib.hid h2
    clear h2 H1
    go_wp2_with fail
    refine (Lap_h H2.out 128 4 27 (.inl ⟨rfl, rfl, rfl⟩)).mono ?_
    rintro e3 w3 ⟨t, rfl, h3⟩
    have H3 := Lib.hid h3
    clear h3 H2
    go_wp2_with fail
    refine (fill20 H3.out (Rd.arg RD.out) LN.out (by omega) B32.out 256 (by decide)).mono ?_
    rintro e4 w4 ⟨v1, v2, rfl, h4⟩
    obtain ⟨X, hX⟩ : ∃ X, fillv ys 524288 256 = X := ⟨_, rfl⟩
    have xl : X.length = 256 := by rw [← hX]; exact fillv_len _ _ _
    have xs : ∀ j, -524288 < X.getD j 0 ∧ X.getD j 0 < 524288 := by rw [← hX]; exact fillv_bd ys (M := 524288) (by decide) _
    have xw : within 1048576 X = true := by
      rw [← hX]
      unfold within
      rw [List.all_eq_true]
      intro y hy
      obtain ⟨j, hj, rfl⟩ := List.getElem_of_mem hy
      have := fillv_bd ys (M := 524288) (by decide) 256 j
      rw [List.getD_eq_getElem?_getD, List.getElem?_eq_getElem hj] at this
      simp at this ⊢
      omega
    rw [hX] at h4
    obtain ⟨A1, c1, rfl, _⟩ := h4.sl.form
    obtain ⟨A2, c2, rfl, _⟩ := h4.up1.sl.form
    rw [xl] at h4
    have H4 := Lib.hid h4
    have XL := Lib.hid xl
    have XW := Lib.hid xw
    have XS := Lib.hid xs
    clear hX h4 H3 xl xw xs
    rw [XL.out]
    go_wp2_with fail
    refine (Forward128 (Hp_lap (H4.out.pk [2, 2])) (Src.of_sl H4.out.sl) XL.out XW.out).mono ?_
    rintro e5 w5 ⟨g5, rfl, hg5, hr5, b5⟩
    have H5 := Lib.hid (H4.out.add_row b5 hr5 hg5)
    clear hg5 hr5 b5 H4
    go_wp2_with fail
    refine (Back128 (Hp_lap (H5.out.pk [3, 3])) (by have := Src.of_sl (Sl.row H5.out.row); rw [fwdv_len] at this; exact this) (fwdv_len _ _ _ _) (fwdv_within _ _ _ _)).mono ?_
    rintro e6 w6 ⟨g6, rfl, hg6, hr6, b6⟩
    have H6 := Lib.hid (H5.out.add_row b6 hr6 hg6)
    clear hg6 hr6 b6 H5
    go_wp2_with fail
    refine (rFold128 (Src.of_sl H6.out.up3.sl) XL.out (fun j => by have := XS.out j; omega)).mono ?_
    rintro e7 w7 ⟨g7, rfl, hg7, hr7, b7⟩
    have H7 := Lib.hid (H6.out.add_row b7 hr7 hg7)
    clear hg7 hr7 b7 H6
    go_wp2_with fail
    refine (rUnfold128 (by have := Src.of_sl (Sl.row H7.out.row); rw [fold_len] at this; exact this) (fold_len _ _) (fun j => by have := fold_bd20 (n := 128) XS.out j; omega)).mono ?_
    rintro e8 w8 ⟨g8, rfl, hg8, hr8, b8⟩
    have AG := Lib.hid (again128 XS.out)
    have BB := Lib.hid (backv_b128 (x := fwdv 128 4 134217728 X) (within_at (fwdv_within _ _ _ _) (by decide)))
    obtain ⟨G, hG⟩ : ∃ G, backv 128 4 134217728 (fwdv 128 4 134217728 X) = G := ⟨_, rfl⟩
    obtain ⟨V, hV⟩ : ∃ V, unfv 128 (foldv 128 X) = V := ⟨_, rfl⟩
    have gl : G.length = 256 := by rw [← hG, backv_len]
    have vl : V.length = 256 := by rw [← hV]; simp [unfv]
    have h8 := (H7.out.add_row b8 hr8 hg8).pk [2, 0]
    rw [hG, hV] at AG
    rw [hG] at BB
    simp only [pick, List.getElem?_cons_succ, List.getElem?_cons_zero, List.eraseIdx_cons_succ, List.eraseIdx_cons_zero] at h8
    rw [hG, hV] at h8
    have H8 : Hid (Hp W w8 [rowA 21 .i32 g6 256 G, rowA 2 .i64 g8 256 V]) := Lib.hid h8
    have GL := Lib.hid gl
    have VL := Lib.hid vl
    clear hg8 hr8 b8 h8 H7 hG hV gl vl
    go_wp2_with fail
    go_loopw [74] (fun i wr => ∃ k : Nat, k ≤ 256 ∧ i = .int .i64 (k : Int) ∧ Hid (Hp W wr [rowA 21 .i32 g6 256 G, rowA 2 .i64 g8 256 V])) (fun i _ => 256 - (intOf i).toNat)
    case atStart => exact ⟨0, by omega, rfl, H8⟩
    case round =>
      clear H8
      obtain ⟨k, hk, rfl, H⟩ := hrel
      by_cases hlt : k < 256
      · have ik : (k : Int) < 256 := by omega
        have d1 := H.out.row.cell (i := k) (by rw [GL.out]; omega)
        have d2 := H.out.up1.row.cell (i := k) (by rw [VL.out]; omega)
        have e1 : G[k]'(by rw [GL.out]; omega) = G.getD k 0 := by rw [List.getD_eq_getElem?_getD, List.getElem?_eq_getElem (by rw [GL.out]; omega)]; rfl
        have e2 : V[k]'(by rw [VL.out]; omega) = V.getD k 0 := by rw [List.getD_eq_getElem?_getD, List.getElem?_eq_getElem (by rw [VL.out]; omega)]; rfl
        rw [e1] at d1
        rw [e2] at d2
        have ag := AG.out k (by omega)
        have bb := BB.out k
        obtain ⟨x, hx⟩ : ∃ x, G.getD k 0 = x := ⟨_, rfl⟩
        obtain ⟨y, hy⟩ : ∃ y, V.getD k 0 = y := ⟨_, rfl⟩
        rw [hx] at d1 ag bb
        rw [hy] at d2 ag
        obtain ⟨z, hz⟩ : ∃ z, x - y = z := ⟨_, rfl⟩
        have w1 : IntKind.i64.wrap x = x := wrapI64 (by omega) (by omega)
        have w2 : IntKind.i64.wrap (x - y) = z := by rw [wrapI64 (by omega) (by omega), hz]
        rw [hz] at ag
        have lk : k < 256 := hlt
        have HH := Lib.hid H.out
        clear hx hy hz e1 e2 H bb
        go_wp2_with fail
        go_quiet (fail)
        clear w1 w2
        go_wp2_with fail
        go_roundw
        case rel => exact ⟨k + 1, by omega, by go_num, Lib.hid (HH.out.drewN _)⟩
        case measure => simp [intOf]; omega
      · obtain rfl : k = 256 := by omega
        go_wp2_with fail
        go_ret
        exact ⟨rfl, H.out.b⟩
  · go_enter Try.func5, Try.ntmps5
    go_wp2_with fail
    refine (lives_calls _).mono ?_
    rintro e1 w1 ⟨rfl, b1⟩
    have H1 : Hid (Hp W w1 []) := Lib.hid ((Hp.nil W).keep b1)
    clear b1
    go_wp2_with fail
    refine (size_calls true _).mono ?_
    rintro e2 w2 ⟨rfl, he⟩
    subst w2
    rw [show (if true = true then (512 : Int) else 128) = 512 from rfl]
    go_wp2_with fail
    refine (Circ_h H1.out).mono ?_
    rintro e2 w2 ⟨g, rfl, h2⟩
    have H2 := Lib.hid h2
    clear h2 H1
    go_wp2_with fail
    refine (Lap_h H2.out 512 1 28 (.inr ⟨rfl, rfl, rfl⟩)).mono ?_
    rintro e3 w3 ⟨t, rfl, h3⟩
    have H3 := Lib.hid h3
    clear h3 H2
    go_wp2_with fail
    refine (fill20 H3.out (Rd.arg RD.out) LN.out (by omega) B32.out 1024 (by decide)).mono ?_
    rintro e4 w4 ⟨v1, v2, rfl, h4⟩
    obtain ⟨X, hX⟩ : ∃ X, fillv ys 524288 1024 = X := ⟨_, rfl⟩
    have xl : X.length = 1024 := by rw [← hX]; exact fillv_len _ _ _
    have xs : ∀ j, -524288 < X.getD j 0 ∧ X.getD j 0 < 524288 := by rw [← hX]; exact fillv_bd ys (M := 524288) (by decide) _
    have xw : within 1048576 X = true := by
      rw [← hX]
      unfold within
      rw [List.all_eq_true]
      intro y hy
      obtain ⟨j, hj, rfl⟩ := List.getElem_of_mem hy
      have := fillv_bd ys (M := 524288) (by decide) 1024 j
      rw [List.getD_eq_getElem?_getD, List.getElem?_eq_getElem hj] at this
      simp at this ⊢
      omega
    rw [hX] at h4
    obtain ⟨A1, c1, rfl, _⟩ := h4.sl.form
    obtain ⟨A2, c2, rfl, _⟩ := h4.up1.sl.form
    rw [xl] at h4
    have H4 := Lib.hid h4
    have XL := Lib.hid xl
    have XW := Lib.hid xw
    have XS := Lib.hid xs
    clear hX h4 H3 xl xw xs
    rw [XL.out]
    go_wp2_with fail
    refine (Forward512 (Hp_lap (H4.out.pk [2, 2])) (Src.of_sl H4.out.sl) XL.out XW.out).mono ?_
    rintro e5 w5 ⟨g5, rfl, hg5, hr5, b5⟩
    have H5 := Lib.hid (H4.out.add_row b5 hr5 hg5)
    clear hg5 hr5 b5 H4
    go_wp2_with fail
    refine (Back512 (Hp_lap (H5.out.pk [3, 3])) (by have := Src.of_sl (Sl.row H5.out.row); rw [fwdv_len] at this; exact this) (fwdv_len _ _ _ _) (fwdv_within _ _ _ _)).mono ?_
    rintro e6 w6 ⟨g6, rfl, hg6, hr6, b6⟩
    have H6 := Lib.hid (H5.out.add_row b6 hr6 hg6)
    clear hg6 hr6 b6 H5
    go_wp2_with fail
    refine (rFold512 (Src.of_sl H6.out.up3.sl) XL.out (fun j => by have := XS.out j; omega)).mono ?_
    rintro e7 w7 ⟨g7, rfl, hg7, hr7, b7⟩
    have H7 := Lib.hid (H6.out.add_row b7 hr7 hg7)
    clear hg7 hr7 b7 H6
    go_wp2_with fail
    refine (rUnfold512 (by have := Src.of_sl (Sl.row H7.out.row); rw [fold_len] at this; exact this) (fold_len _ _) (fun j => by have := fold_bd20 (n := 512) XS.out j; omega)).mono ?_
    rintro e8 w8 ⟨g8, rfl, hg8, hr8, b8⟩
    have AG := Lib.hid (again512 XS.out)
    have BB := Lib.hid (backv_b512 (x := fwdv 512 1 268435456 X) (within_at (fwdv_within _ _ _ _) (by decide)))
    obtain ⟨G, hG⟩ : ∃ G, backv 512 1 268435456 (fwdv 512 1 268435456 X) = G := ⟨_, rfl⟩
    obtain ⟨V, hV⟩ : ∃ V, unfv 512 (foldv 512 X) = V := ⟨_, rfl⟩
    have gl : G.length = 1024 := by rw [← hG, backv_len]
    have vl : V.length = 1024 := by rw [← hV]; simp [unfv]
    have h8 := (H7.out.add_row b8 hr8 hg8).pk [2, 0]
    rw [hG, hV] at AG
    rw [hG] at BB
    simp only [pick, List.getElem?_cons_succ, List.getElem?_cons_zero, List.eraseIdx_cons_succ, List.eraseIdx_cons_zero] at h8
    rw [hG, hV] at h8
    have H8 : Hid (Hp W w8 [rowA 21 .i32 g6 1024 G, rowA 2 .i64 g8 1024 V]) := Lib.hid h8
    have GL := Lib.hid gl
    have VL := Lib.hid vl
    clear hg8 hr8 b8 h8 H7 hG hV gl vl
    go_wp2_with fail
    go_loopw [74] (fun i wr => ∃ k : Nat, k ≤ 1024 ∧ i = .int .i64 (k : Int) ∧ Hid (Hp W wr [rowA 21 .i32 g6 1024 G, rowA 2 .i64 g8 1024 V])) (fun i _ => 1024 - (intOf i).toNat)
    case atStart => exact ⟨0, by omega, rfl, H8⟩
    case round =>
      clear H8
      obtain ⟨k, hk, rfl, H⟩ := hrel
      by_cases hlt : k < 1024
      · have ik : (k : Int) < 1024 := by omega
        have d1 := H.out.row.cell (i := k) (by rw [GL.out]; omega)
        have d2 := H.out.up1.row.cell (i := k) (by rw [VL.out]; omega)
        have e1 : G[k]'(by rw [GL.out]; omega) = G.getD k 0 := by rw [List.getD_eq_getElem?_getD, List.getElem?_eq_getElem (by rw [GL.out]; omega)]; rfl
        have e2 : V[k]'(by rw [VL.out]; omega) = V.getD k 0 := by rw [List.getD_eq_getElem?_getD, List.getElem?_eq_getElem (by rw [VL.out]; omega)]; rfl
        rw [e1] at d1
        rw [e2] at d2
        have ag := AG.out k (by omega)
        have bb := BB.out k
        obtain ⟨x, hx⟩ : ∃ x, G.getD k 0 = x := ⟨_, rfl⟩
        obtain ⟨y, hy⟩ : ∃ y, V.getD k 0 = y := ⟨_, rfl⟩
        rw [hx] at d1 ag bb
        rw [hy] at d2 ag
        obtain ⟨z, hz⟩ : ∃ z, x - y = z := ⟨_, rfl⟩
        have w1 : IntKind.i64.wrap x = x := wrapI64 (by omega) (by omega)
        have w2 : IntKind.i64.wrap (x - y) = z := by rw [wrapI64 (by omega) (by omega), hz]
        rw [hz] at ag
        have lk : k < 1024 := hlt
        have HH := Lib.hid H.out
        clear hx hy hz e1 e2 H bb
        go_wp2_with fail
        go_quiet (fail)
        clear w1 w2
        go_wp2_with fail
        go_roundw
        case rel => exact ⟨k + 1, by omega, by go_num, Lib.hid (HH.out.drewN _)⟩
        case measure => simp [intOf]; omega
      · obtain rfl : k = 1024 := by omega
        go_wp2_with fail
        go_ret
        exact ⟨rfl, H.out.b⟩
end Go.Proofs.Ytngldpeapcbbpaa.Lap

/-
  Words: arguments opened to their cells, structs in structs and slices of these. Plain theorems; no condition.
-/
set_option linter.unusedVariables false
namespace Go.Proofs.Ytngldpeapcbbpaa.Op
open Go.ChangeShapes Go.WideShapes Go.Deep Go.RowKit

/-- The cells of a type that are no struct: how far behind, of which type. -/
def leafs (P : Program) : Nat → Nat → TypeId → List (Nat × TypeId)
  | 0, o, t => [(o, t)]
  | n + 1, o, t => match P.underlying t with
    | some (.struct fs) => fs.toList.flatMap fun f => leafs P n (o + f.offset) f.type
    | _ => [(o, t)]
/-- Each lies inside. -/
def leafsOk (P : Program) : Nat → TypeId → Bool
  | 0, t => P.cellsOf t == 1
  | n + 1, t => match P.underlying t with
    | some (.struct fs) => fs.toList.all fun f => decide (f.offset + P.cellsOf f.type ≤ P.cellsOf t) && leafsOk P n f.type
    | _ => P.cellsOf t == 1
section
variable {H : Type} {enc : TypeId × Value → H} {P : Program} {w : World} {base : Nat} {spare : Nat → Bool} {held : Bool}
theorem open_leafs : ∀ (n o fuel : Nat) (t : TypeId) (cs : List Value) (x : DataW H × List MemPlace), DataW.trod enc P w base spare held fuel t cs = some x → leafsOk P n t = true → cs.length = P.cellsOf t →
    ∀ p ∈ leafs P n o t, ∃ (i : Nat) (v : Value) (y : DataW H × List MemPlace) (m : Nat), p.1 = o + i ∧ i < P.cellsOf t ∧ cs[i]? = some v ∧ DataW.trod enc P w base spare held m p.2 [v] = some y
  | 0, o, fuel, t, cs, x, h, ok, hl, p, hp => by
    simp only [leafs, List.mem_singleton] at hp
    simp only [leafsOk, beq_iff_eq] at ok
    subst hp
    rw [ok] at hl
    match cs, hl with
    | [v], _ => exact ⟨0, v, x, fuel, rfl, by omega, rfl, h⟩
  | n + 1, o, fuel, t, cs, x, h, ok, hl, p, hp => by
    unfold leafs at hp
    unfold leafsOk at ok
    split at hp
    · rename_i fs hfs
      rw [hfs] at ok
      simp only at ok
      rw [List.mem_flatMap] at hp
      obtain ⟨f, hf, hp⟩ := hp
      have hok := List.all_eq_true.1 ok f hf
      simp only [Bool.and_eq_true, decide_eq_true_eq] at hok
      obtain ⟨ys, m, hm, hx, hc, hyl, hg⟩ := DataW.trod_struct hfs h
      obtain ⟨j, hj, hjf⟩ := List.getElem_of_mem hf
      have hfj : fs[j]? = some f := by
        rw [Array.getElem?_eq_some_iff]
        exact ⟨by simpa using hj, by simpa using hjf⟩
      have h1 := hg j f hfj
      have hjl : j < ys.length := by rw [hyl]; simpa using hj
      rw [List.getElem?_eq_getElem hjl] at h1
      obtain ⟨i, v, y, m', e1, e2, e3, e4⟩ := open_leafs n (o + f.offset) m f.type _ _ h1 hok.2 (by rw [List.length_take, List.length_drop, hl]; omega) p hp
      refine ⟨f.offset + i, v, y, m', by omega, by omega, ?_, e4⟩
      rw [List.getElem?_take, if_pos e2, List.getElem?_drop] at e3
      exact e3
    · rename_i hns
      simp only [List.mem_singleton] at hp
      subst hp
      have ok1 : P.cellsOf t = 1 := by
        split at ok
        · rename_i fs hfs
          exact absurd hfs (hns fs)
        · simpa using ok
      rw [ok1] at hl
      match cs, hl with
      | [v], _ => exact ⟨0, v, x, fuel, rfl, by omega, rfl, h⟩
/-- A slice of such. -/
theorem open_rows {t e : TypeId} {fuel : Nat} {cs : List Value} {x : DataW H × List MemPlace} {n C : Nat} (ht : P.underlying t = some (.slice e)) (ok : leafsOk P n e = true) (hC : P.cellsOf e = C) (h : DataW.trod enc P w base spare held fuel t cs = some x) :
    cs = [.slice none 0 0] ∨ ∃ (a : Addr) (len cap : Nat), cs = [.slice (some a) len cap] ∧ len ≤ cap ∧ cap ≤ maxLen ∧
      ∀ i, i < len → ∀ p ∈ leafs P n 0 e, ∃ (v : Value) (y : DataW H × List MemPlace) (m : Nat), w.cell? (a.add (i * C + p.1)) = some v ∧ DataW.trod enc P w base spare held m p.2 [v] = some y := by
  rcases open_slice ht h with ⟨h0, _⟩ | ⟨a, len, cap, m, k, D, Pl, rfl, hb, hl, hm, hmm, rfl, hx⟩
  · exact .inl h0
  · refine .inr ⟨a, len, cap, rfl, hl, hm, fun i hi p hp => ?_⟩
    have hlm : len ≤ m := by rw [hmm]; split <;> omega
    obtain ⟨cs', h1, h2⟩ := hx i (by omega)
    rw [hC] at h1
    obtain ⟨_, hlen, hcell⟩ := World.cells?_some h1
    obtain ⟨o, v, y, m', e1, e2, e3, e4⟩ := open_leafs n 0 k e cs' _ h2 ok (by rw [hlen, hC]) p hp
    rw [hC] at e2
    refine ⟨v, y, m', ?_, e4⟩
    rw [← add_add, show p.1 = o by omega, hcell o e2, e3]
theorem leaf_int {t : TypeId} {k : IntKind} {m : Nat} {v : Value} {y : DataW H × List MemPlace} (ht : P.underlying t = some (.int k)) (h : DataW.trod enc P w base spare held m t [v] = some y) : ∃ n, v = .int k n ∧ (Lit.int k n).wf = true := by
  obtain ⟨n, h1, _, h2⟩ := DataW.trod_int ht h
  simp only [List.cons.injEq, and_true] at h1
  exact ⟨n, h1, h2⟩
theorem leaf_bool {t : TypeId} {m : Nat} {v : Value} {y : DataW H × List MemPlace} (ht : P.underlying t = some .bool) (h : DataW.trod enc P w base spare held m t [v] = some y) : ∃ b, v = .bool b := by
  obtain ⟨n, h1, _⟩ := DataW.trod_bool ht h
  simp only [List.cons.injEq, and_true] at h1
  exact ⟨n, h1⟩
theorem leaf_string {t : TypeId} {m : Nat} {v : Value} {y : DataW H × List MemPlace} (ht : P.underlying t = some .string) (h : DataW.trod enc P w base spare held m t [v] = some y) : ∃ s : ByteArray, v = .string s ∧ s.size ≤ maxLen := by
  obtain ⟨n, h1, _, h2⟩ := DataW.trod_string ht h
  simp only [List.cons.injEq, and_true] at h1
  exact ⟨n, h1, h2⟩
/-- An array of two whole numbers, by value. -/
theorem open_pair {r : Reach} {b0 : Nat} {t e : TypeId} {k : IntKind} {v : Value} {d : DataW H} {p : List MemPlace} (ht : P.underlying t = some (.array 2 e)) (he : P.underlying e = some (.int k)) (hc : P.cellsOf e = 1) (hC : P.cellsOf t = 2)
    (hv : Value.okWide P w r b0 t v) (h : DataW.Trod enc P w base spare held t v d p) : ∃ x y : Int, v = .agg #[.int k x, .int k y] ∧ (Lit.int k x).wf = true ∧ (Lit.int k y).wf = true := by
  obtain ⟨cs, rfl, hsz, _⟩ : ∃ cs, v = .agg cs ∧ cs.size = P.cellsOf t ∧ Row.okWide P w r b0 t cs := by simpa [Value.okWide, ht] using hv
  rw [hC] at hsz
  obtain ⟨l⟩ := cs
  match l, hsz with
  | [c0, c1], _ =>
    obtain ⟨fuel, hf⟩ := h
    obtain ⟨xs, m, _, _, _, hl, hel⟩ := DataW.trod_array ht hf
    match xs, hl with
    | [y0, y1], _ =>
      have g0 := hel 0 (by decide)
      have g1 := hel 1 (by decide)
      simp [Value.cells, hc] at g0 g1
      obtain ⟨n0, e0, _, f0⟩ := DataW.trod_int he g0
      obtain ⟨n1, e1, _, f1⟩ := DataW.trod_int he g1
      simp at e0 e1
      subst e0 e1
      exact ⟨n0, n1, rfl, f0, f1⟩
/-- A row of things, one for each index. -/
theorem rows_list {α : Type} [Inhabited α] {n : Nat} {p : Nat → α → Prop} (h : ∀ i, i < n → ∃ x, p i x) : ∃ l : List α, l.length = n ∧ ∀ i (hi : i < l.length), p i l[i] := by
  obtain ⟨f, hf⟩ := choose_lt h
  refine ⟨(List.range n).map f, by simp, fun i hi => ?_⟩
  simp at hi
  simp [hf i hi]
end
end Go.Proofs.Ytngldpeapcbbpaa.Op

/-
  Law 8: LappedArgs; its walk. No condition but that the arguments are of their kinds.
-/
set_option linter.unusedVariables false
set_option linter.unusedSimpArgs false
namespace Go.Proofs.Ytngldpeapcbbpaa.Lap
open Go.RowKit Go.Proofs.Ytngldpeapcbbpaa Go.Proofs.Ytngldpeapcbbpaa.Bnd Go.Proofs.Ytngldpeapcbbpaa.Art Go.Proofs.YtngldpeapcbbpaaW.PrintWords

attribute [local irreducible] cosv wgt qt QT oneLine turnv backv fwdv fillv within
theorem Forward_nil (v : Value) (w : World) : Calls Try.prog 22 #[.pointer none, v] w fun e w' => e = .returned (.tuple #[.slice none 0 0, .int .i64 1]) ∧ w' = w := by
  go_enter Try.func22, Try.ntmps22
  go_wp2_with fail
  go_ret2
  exact ⟨rfl, rfl⟩
theorem Back_nil (v : Value) (w : World) : Calls Try.prog 18 #[.pointer none, v] w fun e w' => e = .returned (.tuple #[.slice none 0 0, .int .i64 1]) ∧ w' = w := by
  go_enter Try.func18, Try.ntmps18
  go_wp2_with fail
  go_ret2
  exact ⟨rfl, rfl⟩
/-- What an answer's number is. -/
def cdq (q : Bool) : Int := if q then 0 else 1
set_option maxHeartbeats 1000000 in
theorem Fwd_any {w : World} {t c : Nat} (h : IsLap w t c 128 4 27) {A : Option Addr} {len cap : Nat} {x : List Int} (src : Src w .i32 (.slice A len cap) x) (hl : x.length = len) (hm : len ≤ 1000) (b32 : ∀ j, -2147483648 ≤ x.getD j 0 ∧ x.getD j 0 ≤ 2147483647) (q : Bool) (hq : (within 1048576 x && ((len : Int) == 256)) = q) :
    Calls Try.prog 22 #[.pointer (some ⟨t, 0, none⟩), .slice A len cap] w fun e w' => ∃ v, e = .returned (.tuple #[v, .int .i64 (cdq q)]) ∧ Below w.heap.size w w' := by
  cases q with
  | true =>
    rw [Bool.and_eq_true, beq_iff_eq] at hq
    obtain ⟨h1, h2⟩ := hq
    obtain rfl : len = 256 := by omega
    refine (Forward128 h src hl h1).mono ?_
    rintro e w' ⟨g, rfl, _, _, b⟩
    exact ⟨_, rfl, b⟩
  | false =>
    have ht := h.blk.lt
    have c1 := h.blk.cell (i := 1) rfl
    have C := Lib.hid (fits21 src hl (by omega) b32 256)
    have HQ := Lib.hid hq
    clear h src hl b32 hq
    go_enter Try.func22, Try.ntmps22
    go_wp2_with fail
    refine C.out.mono ?_
    rintro e1 w1 ⟨rfl, he⟩
    subst w1
    rw [HQ.out]
    go_wp2_with fail
    go_ret2
    exact ⟨_, rfl, Below.refl _ _⟩
set_option maxHeartbeats 1000000 in
theorem Back_any {w : World} {t c : Nat} (h : IsLap w t c 128 4 27) {A : Option Addr} {len cap : Nat} {x : List Int} (src : Src w .i32 (.slice A len cap) x) (hl : x.length = len) (hm : len ≤ 1000) (b32 : ∀ j, -2147483648 ≤ x.getD j 0 ∧ x.getD j 0 ≤ 2147483647) (q : Bool) (hq : (within 33554432 x && ((len : Int) == 128)) = q) :
    Calls Try.prog 18 #[.pointer (some ⟨t, 0, none⟩), .slice A len cap] w fun e w' => ∃ v, e = .returned (.tuple #[v, .int .i64 (cdq q)]) ∧ Below w.heap.size w w' := by
  cases q with
  | true =>
    rw [Bool.and_eq_true, beq_iff_eq] at hq
    obtain ⟨h1, h2⟩ := hq
    obtain rfl : len = 128 := by omega
    refine (Back128 h src hl h1).mono ?_
    rintro e w' ⟨g, rfl, _, _, b⟩
    exact ⟨_, rfl, b⟩
  | false =>
    have ht := h.blk.lt
    have c1 := h.blk.cell (i := 1) rfl
    have C := Lib.hid (fits26 src hl (by omega) b32 128)
    have HQ := Lib.hid hq
    clear h src hl b32 hq
    go_enter Try.func18, Try.ntmps18
    go_wp2_with fail
    refine C.out.mono ?_
    rintro e1 w1 ⟨rfl, he⟩
    subst w1
    rw [HQ.out]
    go_wp2_with fail
    go_ret2
    exact ⟨_, rfl, Below.refl _ _⟩
theorem within_set {m x : Int} {s i : Nat} (hm : 0 < m) (hi : i < s) : within m ((List.replicate s (0 : Int)).set i x) = (decide (-m ≤ x) && decide (x < m)) := by
  rw [Bool.eq_iff_iff]
  unfold within
  rw [List.all_eq_true]
  constructor
  · intro h
    exact h x (by
      rw [List.mem_iff_getElem]
      exact ⟨i, by simpa using hi, by simp⟩)
  · intro h y hy
    rcases List.mem_or_eq_of_mem_set hy with h1 | h1
    · obtain rfl := List.eq_of_mem_replicate h1
      simp; omega
    · subst h1; exact h
theorem set_b32 {x : Int} {s i : Nat} (h : -2147483648 ≤ x ∧ x ≤ 2147483647) (j : Nat) : -2147483648 ≤ ((List.replicate s (0 : Int)).set i x).getD j 0 ∧ ((List.replicate s (0 : Int)).set i x).getD j 0 ≤ 2147483647 := by
  rw [List.getD_eq_getElem?_getD, List.getElem?_set]
  split
  · split
    · exact h
    · decide
  · rw [List.getElem?_replicate]
    split <;> decide
set_option maxHeartbeats 4000000 in
set_option maxRecDepth 100000 in
theorem args_law (n k at_ x : Int) (W : World) (wn : (Lit.int .i64 n).wf = true) (wk : (Lit.int .i64 k).wf = true) (wa : (Lit.int .i64 at_).wf = true) (wx : (Lit.int .i32 x).wf = true) :
    Calls Try.prog 6 #[.int .i64 n, .agg #[.int .i64 k, .int .i64 at_], .int .i32 x] W fun e w' => e = .returned (.bool true) ∧ Below W.heap.size W w' := by
  have bx : -2147483648 ≤ x ∧ x ≤ 2147483647 := by
    simp only [Lit.wf, Bool.and_eq_true, decide_eq_true_eq] at wx
    have e1 : IntKind.min .i32 = -2147483648 := by decide
    have e2 : IntKind.max .i32 = 2147483647 := by decide
    rw [e1, e2] at wx
    exact wx
  obtain ⟨u, hu⟩ : ∃ u : Nat, IntKind.u64.wrap k = (u : Int) := ⟨(IntKind.u64.wrap k).toNat, by rw [IntKind.wrap_u64]; omega⟩
  obtain ⟨v, hv⟩ : ∃ v : Nat, IntKind.u64.wrap at_ = (v : Int) := ⟨(IntKind.u64.wrap at_).toNat, by rw [IntKind.wrap_u64]; omega⟩
  have vb : (v : Int) < 18446744073709551616 := by rw [← hv, IntKind.wrap_u64]; omega
  obtain ⟨s, hs⟩ : ∃ s : Nat, s = u % 300 := ⟨_, rfl⟩
  obtain ⟨i, hi⟩ : ∃ i : Nat, i = v % s := ⟨_, rfl⟩
  have sb : s < 300 := by omega
  have s1 : Int.tmod (u : Int) 300 = (s : Int) := by rw [Int.tmod_eq_emod_of_nonneg (Int.natCast_nonneg _), hs]; rfl
  have s2 : (u : Int) % 300 = (s : Int) := by omega
  have s4 : IntKind.u64.wrap (s : Int) = s := by rw [IntKind.wrap_u64]; omega
  have i1 : Int.tmod (v : Int) (s : Int) = (i : Int) := by rw [Int.tmod_eq_emod_of_nonneg (Int.natCast_nonneg _), hi]; exact (Int.natCast_emod v s).symm
  have i2 : (v : Int) % (s : Int) = (i : Int) := by rw [hi]; exact (Int.natCast_emod v s).symm
  have i0 : 0 < s → i < s := fun h => by rw [hi]; exact Nat.mod_lt _ h
  have hm := mk32 s (by omega)
  have I0 := Lib.hid i0
  have WX := Lib.hid wx
  have HU := Lib.hid hu
  have HV := Lib.hid hv
  have S1 := Lib.hid s1
  have S2 := Lib.hid s2
  have S4 := Lib.hid s4
  have I1 := Lib.hid i1
  have I2 := Lib.hid i2
  clear wk wa wx hs hi i0 vb hu hv s1 s2 s4 i1 i2
  go_enter Try.func6, Try.ntmps6
  go_wp2_with fail
  go_quiet (fail)
  go_wp2_with fail
  refine (lives_calls _).mono ?_
  rintro e1 w1 ⟨rfl, b1⟩
  have H1 : Hid (Hp W w1 []) := Lib.hid ((((Hp.nil W).alloc _).drewN _).keep b1)
  clear b1
  go_wp2_with fail
  refine (Circ_h H1.out).mono ?_
  rintro e2 w2 ⟨g, rfl, h2⟩
  have H2 := Lib.hid h2
  clear h2 H1
  go_wp2_with fail
  have CN : Hid (∀ w3, w3 = w2 → Hp W w3 [circA g]) := Lib.hid (fun w3 e => by rw [e]; exact H2.out)
  rcases (show n = 128 ∨ n = 512 ∨ (n ≠ 128 ∧ n ≠ 512) by omega) with rfl | rfl | ⟨n1, n2⟩
  focus (
    refine (Lap_h H2.out 128 4 27 (.inl ⟨rfl, rfl, rfl⟩)).mono ?_
    rintro e3 w3 ⟨t0, rfl, h3⟩
    have H3 : Hid (Hp W w3 [circA g]) := Lib.hid (h3.pk [1])
    clear h3 CN H2)
  rotate_left
  focus (
    refine (Lap_h H2.out 512 1 28 (.inr ⟨rfl, rfl, rfl⟩)).mono ?_
    rintro e3 w3 ⟨t0, rfl, h3⟩
    have H3 : Hid (Hp W w3 [circA g]) := Lib.hid (h3.pk [1])
    clear h3 CN H2)
  rotate_left
  focus (
    refine (New_no n n1 n2 _).mono ?_
    rintro e3 w3 ⟨rfl, he⟩
    have H3 : Hid (Hp W w3 [circA g]) := Lib.hid (CN.out _ he)
    have k1 : (n == 128) = false := by rw [beq_eq_false_iff_ne]; exact n1
    have k2 : (n == 512) = false := by rw [beq_eq_false_iff_ne]; exact n2
    clear he n1 n2 CN H2)
  rotate_left
  all_goals
    go_wp2_with fail
    refine (Forward_nil _ _).mono ?_
    rintro e4 w4 ⟨rfl, he⟩
    subst w4
    go_wp2_with fail
    refine (Back_nil _ _).mono ?_
    rintro e4 w4 ⟨rfl, he⟩
    subst w4
    go_wp2_with fail
    refine (New_nil _).mono ?_
    rintro e4 w4 ⟨rfl, he⟩
    subst w4
    go_wp2_with fail
    refine (Lap_h H3.out 128 4 27 (.inl ⟨rfl, rfl, rfl⟩)).mono ?_
    rintro e5 w5 ⟨t, rfl, h5⟩
    have H5 := Lib.hid h5
    clear h5 H3
    have hu := HU.out
    have s1 := S1.out
    have H6 := Lib.hid (H5.out.new_row 21 .i32 s 0 (by unfold maxLen; omega))
    clear H5
    go_upto_if 89 with (fail)
    clear hu s1
    go_cut [] (fun wc => Hid (Hp W wc [rowA 21 .i32 w5.heap.size s ((List.replicate s 0).set i x), lapA t g 128 4 27, circA g]))
    case first =>
      by_cases s0 : 0 < s
      · have ii := I0.out s0
        have is1 : (0 : Int) < (s : Int) := by omega
        have is2 : (i : Int) < (s : Int) := by omega
        have is3 : ¬ (s : Int) = 0 := by omega
        have is4 : ((s : Int) == 0) = false := by rw [beq_eq_false_iff_ne]; omega
        have is5 : ¬ s = 0 := by omega
        have is6 : (s : Int) ≠ 0 := by omega
        have fr := H6.out.row.free i
        have fc := H6.out.row.cell (i := i) (by simpa using ii)
        have hs := H6.out.set i x
        rw [World.setCell_alloc_new] at hs
        have HS := Lib.hid hs
        clear hs
        have hv := HV.out
        have s4 := S4.out
        have i1 := I1.out
        go_wp2_with fail
        go_meet
        exact HS
      · obtain rfl : s = 0 := by omega
        have is1 : decide ((0 : Int) < ((0 : Nat) : Int)) = false := by decide
        go_wp2_with fail
        go_meet
        exact H6
    case rest =>
      clear H6
      have H6 := hcut
      clear hcut
      have LL : Hid (((List.replicate s (0 : Int)).set i x).length = s) := Lib.hid (by simp)
      have q1 : ∃ q, (within 1048576 ((List.replicate s (0 : Int)).set i x) && ((s : Int) == 256)) = q ∧ q = ((s : Int) == 256 && (decide (-1048576 ≤ x) && decide (x < 1048576))) := by
        refine ⟨_, rfl, ?_⟩
        by_cases h : (s : Int) = 256
        · rw [within_set (by decide) (I0.out (by omega)), Bool.and_comm]
        · have hb : ((s : Int) == 256) = false := by rw [beq_eq_false_iff_ne]; exact h
          rw [hb, Bool.and_false, Bool.false_and]
      have q2 : ∃ q, (within 33554432 ((List.replicate s (0 : Int)).set i x) && ((s : Int) == 128)) = q ∧ q = ((s : Int) == 128 && (decide (-33554432 ≤ x) && decide (x < 33554432))) := by
        refine ⟨_, rfl, ?_⟩
        by_cases h : (s : Int) = 128
        · rw [within_set (by decide) (I0.out (by omega)), Bool.and_comm]
        · have hb : ((s : Int) == 128) = false := by rw [beq_eq_false_iff_ne]; exact h
          rw [hb, Bool.and_false, Bool.false_and]
      obtain ⟨q1, e1, f1⟩ := q1
      obtain ⟨q2, e2, f2⟩ := q2
      have E1 := Lib.hid e1
      have E2 := Lib.hid e2
      have F1 := Lib.hid f1
      have F2 := Lib.hid f2
      clear e1 e2 f1 f2
      go_wp2_with fail
      refine (Fwd_any (Hp_lap (H6.out.pk [1, 1])) (by have := Src.of_sl (Sl.row H6.out.row); rw [LL.out] at this; exact this) LL.out (by omega) (set_b32 bx) q1 E1.out).mono ?_
      rintro e7 w7 ⟨v7, rfl, b7⟩
      have H7 := Lib.hid (H6.out.keep b7)
      clear b7 H6
      go_wp2_with fail
      refine (Back_any (Hp_lap (H7.out.pk [1, 1])) (by have := Src.of_sl (Sl.row H7.out.row); rw [LL.out] at this; exact this) LL.out (by omega) (set_b32 bx) q2 E2.out).mono ?_
      rintro e8 w8 ⟨v8, rfl, b8⟩
      have H8 := Lib.hid (H7.out.keep b8)
      clear b8 H7
      have f1 := F1.out
      have f2 := F2.out
      rcases (show (s : Int) = 256 ∨ (s : Int) = 128 ∨ ((s : Int) ≠ 256 ∧ (s : Int) ≠ 128) by omega) with h | h | ⟨h, h'⟩
      · have b2 : ((s : Int) == 128) = false := by rw [beq_eq_false_iff_ne]; omega
        have b1 : ((s : Int) == 256) = true := by rw [beq_iff_eq]; exact h
        rw [b1, Bool.true_and] at f1
        rw [b2, Bool.false_and] at f2
        subst f2
        by_cases h1 : -1048576 ≤ x
        · by_cases h2 : x < 1048576
          · rw [decide_eq_true h1, decide_eq_true h2] at f1
            subst f1
            rw [show cdq (true && true) = 0 from rfl, show cdq false = 1 from rfl]
            clear F1 F2 E1 E2
            go_wp2_with fail
            go_ret
            exact ⟨rfl, H8.out.b⟩
          · have d2 : decide (x < 1048576) = false := decide_eq_false h2
            rw [decide_eq_true h1, decide_eq_false h2] at f1
            subst f1
            rw [show cdq (true && false) = 1 from rfl, show cdq false = 1 from rfl]
            clear F1 F2 E1 E2
            go_wp2_with fail
            go_ret
            exact ⟨rfl, H8.out.b⟩
        · rw [decide_eq_false h1, Bool.false_and] at f1
          subst f1
          rw [show cdq false = 1 from rfl]
          clear F1 F2 E1 E2
          go_wp2_with fail
          go_ret
          exact ⟨rfl, H8.out.b⟩
      · have b2 : ((s : Int) == 128) = true := by rw [beq_iff_eq]; exact h
        have b1 : ((s : Int) == 256) = false := by rw [beq_eq_false_iff_ne]; omega
        rw [b1, Bool.false_and] at f1
        rw [b2, Bool.true_and] at f2
        subst f1
        by_cases h1 : -33554432 ≤ x
        · by_cases h2 : x < 33554432
          · rw [decide_eq_true h1, decide_eq_true h2] at f2
            subst f2
            rw [show cdq (true && true) = 0 from rfl, show cdq false = 1 from rfl]
            clear F1 F2 E1 E2
            go_wp2_with fail
            go_ret
            exact ⟨rfl, H8.out.b⟩
          · have d2 : decide (x < 33554432) = false := decide_eq_false h2
            rw [decide_eq_true h1, decide_eq_false h2] at f2
            subst f2
            rw [show cdq (true && false) = 1 from rfl, show cdq false = 1 from rfl]
            clear F1 F2 E1 E2
            go_wp2_with fail
            go_ret
            exact ⟨rfl, H8.out.b⟩
        · rw [decide_eq_false h1, Bool.false_and] at f2
          subst f2
          rw [show cdq false = 1 from rfl]
          clear F1 F2 E1 E2
          go_wp2_with fail
          go_ret
          exact ⟨rfl, H8.out.b⟩
      · have b2 : ((s : Int) == 128) = false := by rw [beq_eq_false_iff_ne]; exact h'
        have b1 : ((s : Int) == 256) = false := by rw [beq_eq_false_iff_ne]; exact h
        rw [b1, Bool.false_and] at f1
        rw [b2, Bool.false_and] at f2
        subst f1 f2
        rw [show cdq false = 1 from rfl]
        clear F1 F2 E1 E2
        go_wp2_with fail
        go_ret
        exact ⟨rfl, H8.out.b⟩
end Go.Proofs.Ytngldpeapcbbpaa.Lap
