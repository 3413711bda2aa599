/-
  The walk of sidebandlaw12.fill; no condition but those told.
-/
import Derived.Test.YtlbjoflmfboeeaaBno
import Derived.Test.YtlbjoflmfboeeaaQre
set_option linter.unusedVariables false
set_option linter.unusedSimpArgs false
namespace Go.Proofs.Ytlbjoflmfboeeaa.Bno
open Go.RowKit Go.Proofs.Ytlbjoflmfboeeaa Go.Proofs.YtlbjoflmfboeeaaW.PrintWords Go.Proofs.YtlbjoflmfboeeaaW.PrintLast Go.Proofs.YtlbjoflmfboeeaaW.PrintMore
theorem refEdges_row (w : World) : Calls Try.prog 52 #[] w fun e w' => ∃ g cap, e = .returned (.slice (some ⟨g, 0, none⟩) 22 cap) ∧ w.heap.size ≤ g ∧ RowI w' 3 .i64 g cap EL ∧ Below w.heap.size w w' := by
  refine (Qre.sidebandref04_Edges.calls 200 EL w (by decide +kernel)).mono ?_
  rintro e w' ⟨v, rfl, hR, hb⟩
  obtain ⟨g, cap, rfl, hg, hr⟩ := rowI_of_R hR (by rw [EL_len]; omega)
  exact ⟨g, cap, rfl, hg, hr, hb⟩
/-- A line ahead of its ceiling, and below it. -/
def lineOf (l : List Int) (j : Nat) : Int := if l.length = 0 then 0 else shr .i32 (rd l ((j % l.length : Nat) : Int)) ((j / l.length % 9 : Nat) : Int)
def fv (l c : List Int) (over : Bool) (i : Nat) : Int := if over = true then lineOf l i else Int.tmod (lineOf l i) (2 ^ (rd c (bandOf (i : Int))).toNat)
theorem div_bd (n d : Int) (hd : 1 ≤ d) (h0 : -2147483648 ≤ n) (h1 : n < 2147483648) : -2147483648 ≤ n / d ∧ n / d < 2147483648 := by
  constructor
  · rw [Int.le_ediv_iff_mul_le (by omega)]
    have : (-2147483648 : Int) * d ≤ -2147483648 * 1 := Int.mul_le_mul_of_nonpos_left (by decide) hd
    omega
  · rw [Int.ediv_lt_iff_lt_mul (by omega)]
    have : (2147483648 : Int) * 1 ≤ 2147483648 * d := Int.mul_le_mul_of_nonneg_left hd (by decide)
    omega
theorem rd_nat (l : List Int) (i : Nat) (h : i < l.length) : rd l (i : Int) = l[i] := by
  unfold rd
  rw [Int.toNat_natCast, List.getD_eq_getElem?_getD, List.getElem?_eq_getElem h]; rfl
theorem lineOf_bd (l : List Int) (hl : ∀ x ∈ l, -2147483648 ≤ x ∧ x < 2147483648) (j : Nat) : -2147483648 ≤ lineOf l j ∧ lineOf l j < 2147483648 := by
  unfold lineOf
  by_cases h : l.length = 0
  · rw [if_pos h]; omega
  · rw [if_neg h, rd_nat _ _ (Nat.mod_lt _ (by omega))]
    have hx := hl _ (List.getElem_mem (Nat.mod_lt j (show 0 < l.length by omega)))
    unfold shr
    exact div_bd _ _ (by have : (0 : Int) < 2 ^ min ((j / l.length % 9 : Nat) : Int).toNat IntKind.i32.bits := Int.pow_pos (by omega); omega) hx.1 hx.2
theorem wrapI32 {x : Int} (h0 : -2147483648 ≤ x) (h1 : x < 2147483648) : IntKind.i32.wrap x = x := by
  unfold IntKind.wrap
  simp only [IntKind.bits, IntKind.signed]
  simp
  split <;> omega
theorem pow26 : ∀ n : Fin 27, (1 : Int) ≤ 2 ^ n.val ∧ (2 : Int) ^ n.val ≤ 67108864 ∧ IntKind.i32.wrap (2 ^ n.val) = 2 ^ n.val := by decide
theorem tmod_bd (x p : Int) (h0 : -2147483648 ≤ x) (h1 : x < 2147483648) (hp : 1 ≤ p) (hp2 : p ≤ 67108864) : -67108864 < Int.tmod x p ∧ Int.tmod x p < 67108864 := by
  have h := Int.tmod_lt_of_pos x (show 0 < p by omega)
  have h2 := Int.tmod_lt_of_pos (-x) (show 0 < p by omega)
  rw [Int.neg_tmod] at h2
  omega
def FillOk (l c : List Int) : Prop := l.length ≤ 1500 ∧ (∀ x ∈ l, -2147483648 ≤ x ∧ x < 2147483648) ∧ c.length = 21 ∧ ∀ b : Nat, b < 21 → 0 ≤ rd c (b : Int) ∧ rd c (b : Int) ≤ 26
attribute [local irreducible] EL el bandOf
set_option maxHeartbeats 4000000 in
set_option maxRecDepth 100000 in
theorem fill_calls (A0 : Option Addr) (c0 : Nat) (l : List Int) (A1 : Option Addr) (c1 : Nat) (c : List Int) (over : Bool) (w : World) (hr0 : Kd.C (Kd.int .i32) w A0 l.length l) (hc0 : l.length ≤ c0) (hr1 : Kd.C (Kd.int .i64) w A1 c.length c) (hc1 : c.length ≤ c1) (ok : FillOk l c) :
    Calls Try.prog 50 #[.slice A0 l.length c0, .slice A1 c.length c1, .bool over] w fun e w' => ∃ v0_ v1_ : Value, e = .returned (.tuple #[v0_, v1_]) ∧ Kd.R (Kd.int .i32) 21 w' w.heap.size (fun _ => True) v0_ ((List.range 512).map (fv l c over)) ∧ Kd.R (Kd.int .i64) 2 w' w.heap.size (fun _ => True) v1_ ((List.range 512).map (fv l c over)) ∧ Below w.heap.size w w' := by
  obtain ⟨ok1, ok2, ok3, ok4⟩ := ok
  rw [ok3]
  have m1 : ∀ w : World, (Instr.makeSlice 86 (.int .i64 512) (.int .i64 512)).run Try.prog w = .ok (.slice (some ⟨w.heap.size, 0, none⟩) 512 512) (w.alloc (.cells (madeCells #[.int .i32 0] 512) 21)) := fun w => run_make_row' 86 21 (.int .i32 0) 4 Try.underlying86 (by kernel_rfl) rfl .i64 .i64 512 (by omega) (by omega) w
  have m2 : ∀ w : World, (Instr.makeSlice 89 (.int .i64 512) (.int .i64 512)).run Try.prog w = .ok (.slice (some ⟨w.heap.size, 0, none⟩) 512 512) (w.alloc (.cells (madeCells #[.int .i64 0] 512) 2)) := fun w => run_make_row' 89 2 (.int .i64 0) 8 Try.underlying89 (by kernel_rfl) rfl .i64 .i64 512 (by omega) (by omega) w
  go_enter Try.func50, Try.ntmps50
  go_wp2_with (first
    | (go_at_call 52; refine (refEdges_row _).mono ?_; rintro e w1 ⟨g, cap, rfl, hg, hr, hb⟩; have hcap := hr.len; rw [EL_len] at hcap))
  have hsz := hb.size
  have hgl := hr.lt
  go_cut [9, 10] (fun v5 v6 wc => ∃ G H : Nat, v5 = .slice (some ⟨G, 0, none⟩) 512 512 ∧ v6 = .slice (some ⟨H, 0, none⟩) 512 512 ∧ G ≠ H ∧ w1.heap.size ≤ G ∧ w1.heap.size ≤ H ∧ Hid (RowI wc 21 .i32 G 512 (List.replicate 512 0)) ∧ Hid (RowI wc 2 .i64 H 512 (List.replicate 512 0)) ∧ Hid (Below w1.heap.size w1 wc))
  case first =>
    go_region
    all_goals (go_wp2; go_meet)
    · exact ⟨_, _, rfl, rfl, by omega, by omega, by omega, (RowI.new w1 _ _ 512 0 (by decide)).alloc _, RowI.new2 w1 _ _ _ 512 0 (by decide), ((((Below.refl _ _).alloc (Nat.le_refl _) _).alloc (by simp) _).drew : Below _ _ _)⟩
    · exact ⟨_, _, rfl, rfl, by omega, by omega, by omega, RowI.new2 w1 _ _ _ 512 0 (by decide), (RowI.new w1 _ _ 512 0 (by decide)).alloc _, ((((Below.refl _ _).alloc (Nat.le_refl _) _).alloc (by simp) _).drew : Below _ _ _)⟩
  case rest =>
    clear m1 m2
    obtain ⟨G, H, rfl, rfl, hne, hG, hH, HX, HY, HB⟩ := hcut
    have HR0 := Lib.hid hr0
    have HR1 := Lib.hid hr1
    have HO2 := Lib.hid ok2
    have HO4 := Lib.hid ok4
    obtain ⟨p, hp⟩ : ∃ p, l.length = p := ⟨_, rfl⟩
    have HP := Lib.hid hp
    rw [hp] at ok1 hc0 ⊢
    clear hr0 hr1 ok2 ok4 hp
    have HE := Lib.hid hr
    have HW := Lib.hid hb
    clear hr hb
    go_wp2
    go_loopw [18] (fun v wr => ∃ b x : Nat, b ≤ 21 ∧ v = .int .i64 (b : Int) ∧ (x : Int) = el b ∧ Hid (RowI wr 21 .i32 G 512 (fillTo (fv l c over) 512 x)) ∧ Hid (RowI wr 2 .i64 H 512 (fillTo (fv l c over) 512 x)) ∧ Hid (Below w1.heap.size w1 wr)) (fun v _ => 21 - (intOf v).toNat)
    case atStart => exact ⟨0, 0, by omega, rfl, by rw [el_ends.1]; rfl, by rw [fillTo_zero]; exact HX, by rw [fillTo_zero]; exact HY, HB⟩
    case round =>
      clear HX HY HB
      obtain ⟨b, x, hb21, rfl, hx, HX, HY, HB⟩ := hrel
      by_cases hlt : b < 21
      · have hE := HE.out.below HB.out hgl
        have ce := hE.cell (i := b) (by rw [EL_len]; omega)
        rw [EL_get _ (by rw [EL_len]; omega), ← hx] at ce
        obtain ⟨y, hy⟩ : ∃ y : Nat, (y : Int) = el (b + 1) := ⟨(el (b + 1)).toNat, by have := el_mono ⟨0, by omega⟩ ⟨b + 1, by omega⟩ (by simp); have := el_ends.1; simp only at *; omega⟩
        have hy512 : y ≤ 512 := by
          have e2 := el_ends.2
          rcases Nat.eq_or_lt_of_le (show b + 1 ≤ 21 by omega) with h | h
          · rw [h] at hy; omega
          · have := el_mono ⟨b + 1, by omega⟩ ⟨21, by omega⟩ h
            simp only at this; omega
        have hxy : x < y := by
          have := el_mono ⟨b, by omega⟩ ⟨b + 1, by omega⟩ (by simp)
          simp only at this; omega
        have i21 : (b : Int) < 21 := by omega
        have HXE := Lib.hid hx
        have HYE := Lib.hid hy
        clear hx hy
        go_wp2_with fail
        go_loopw [12] (fun v wq => ∃ z : Nat, x ≤ z ∧ z ≤ y ∧ v = .int .i64 (z : Int) ∧ Hid (RowI wq 21 .i32 G 512 (fillTo (fv l c over) 512 z)) ∧ Hid (RowI wq 2 .i64 H 512 (fillTo (fv l c over) 512 z)) ∧ Hid (Below w1.heap.size w1 wq)) (fun v _ => 512 - (intOf v).toNat)
        case atStart => exact ⟨x, by omega, by omega, rfl, HX, HY, HB⟩
        case round =>
          clear HX HY HB hE ce
          obtain ⟨j, hj0, hj1, rfl, HX, HY, HB⟩ := hrel
          have hE := HE.out.below HB.out hgl
          have ce := hE.cell (i := b + 1) (by rw [EL_len]; omega)
          rw [EL_get _ (by rw [EL_len]; omega), ← HYE.out] at ce
          by_cases hjy : j < y
          · have d1 := HX.out.cell (i := j) (by rw [fillTo_len]; omega)
            have f1 := HX.out.free j
            have d3 := HY.out.cell (i := j) (by rw [fillTo_len]; omega)
            have f3 := HY.out.free j
            rw [fillTo_at] at d1 d3
            have hband : bandOf (j : Int) = b := band_one (j : Int) b hlt (by rw [← HXE.out]; omega) (by rw [← HYE.out]; omega)
            have hb4 := HO4.out b hlt
            obtain ⟨n, hn⟩ : ∃ n : Nat, rd c (b : Int) = n := ⟨(rd c (b : Int)).toNat, by omega⟩
            obtain ⟨q1, q2, q3⟩ := pow26 ⟨n, by omega⟩
            simp only at q1 q2 q3
            obtain ⟨ad1, rfl, c1⟩ := Kd.at_int HR1.out (b : Int) (by omega) (by omega)
            rw [hn, Int.toNat_natCast] at c1
            have had1 : (ad1.add b).block < w.heap.size := World.block_lt_of_cell? w _ c1
            have C1 := Lib.hid ((HW.out.cell had1).trans c1)
            rw [← HW.out.cell had1, ← HB.out.cell (by omega)] at c1
            have hL := lineOf_bd l HO2.out j
            have HF := Lib.hid (show fv l c over j = if over = true then lineOf l j else Int.tmod (lineOf l j) (2 ^ n) from by unfold fv; rw [hband, hn, Int.toNat_natCast])
            have i512 : (j : Int) < 512 := by omega
            have iy : (j : Int) < (y : Int) := by omega
            have nm : min n 32 = n := Nat.min_eq_left (by omega)
            have nz1 : (2 : Int) ^ n ≠ 0 := by omega
            have nz2 : ((2 : Int) ^ n == 0) = false := by rw [beq_eq_false_iff_ne]; exact nz1
            have nz4 : ¬ ((n : Int) < 0) := by omega
            have nz5 : decide ((n : Int) < 0) = false := decide_eq_false nz4
            have bne1 : ad1.block ≠ G := by rw [add_block] at had1; omega
            have bne2 : ad1.block ≠ H := by rw [add_block] at had1; omega
            by_cases h0 : 0 < p
            · have hjp : j % p < l.length := by rw [HP.out]; exact Nat.mod_lt _ h0
              obtain ⟨ad, rfl, d2⟩ := cell_C HR0.out hjp
              have had : (ad.add (j % p)).block < w.heap.size := World.block_lt_of_cell? w _ d2
              rw [← HW.out.cell had, ← HB.out.cell (by omega)] at d2
              have bne3 : ad.block ≠ G := by rw [add_block] at had; omega
              have bne4 : ad.block ≠ H := by rw [add_block] at had; omega
              have HV := Lib.hid (show lineOf l j = l[j % p] / 2 ^ min (j / p % 9) 32 from by
                unfold lineOf shr
                rw [if_neg (by rw [HP.out]; omega), HP.out, rd_nat _ _ hjp, Int.toNat_natCast]; rfl)
              rw [HV.out] at hL HF
              generalize l[j % p] = y0 at *
              have e1 : Int.tmod (j : Int) (p : Int) = ((j % p : Nat) : Int) := by rw [Int.tmod_eq_emod_of_nonneg (Int.natCast_nonneg _)]; rfl
              have e2 : Int.tdiv (j : Int) (p : Int) = ((j / p : Nat) : Int) := by rw [Int.tdiv_eq_ediv_of_nonneg (Int.natCast_nonneg _)]; rfl
              have hq : j / p ≤ j := Nat.div_le_self _ _
              have hm : j % p < p := Nat.mod_lt _ h0
              have e4 : Int.tmod ((j / p : Nat) : Int) 9 = ((j / p % 9 : Nat) : Int) := by rw [Int.tmod_eq_emod_of_nonneg (Int.natCast_nonneg _)]; rfl
              have z1 : (p : Int) ≠ 0 := by omega
              have z2 : ((p : Int) == 0) = false := by rw [beq_eq_false_iff_ne]; omega
              have z3 : p ≠ 0 := by omega
              generalize j % p = jm at *
              generalize j / p = jq at *
              have e3 : IntKind.i64.wrap (jq : Int) = (jq : Int) := wrapI64 (by omega) (by omega)
              generalize jq % 9 = js at *
              have z4 : ¬ ((js : Int) < 0) := by omega
              have z5 : decide ((js : Int) < 0) = false := decide_eq_false z4
              have z6 : decide (0 ≤ (js : Int)) = true := decide_eq_true (by omega)
              cases over with
              | true =>
                rw [if_pos rfl] at HF
                go_wp2_with fail
                go_still_tail 16, (by kernel_rfl)
                go_wp2_with fail
                refine ⟨⟨j + 1, by omega, by omega, by push_cast; rfl, ?_, ?_, (((HB.out.setCell (p := ⟨G, j, none⟩) hG _).setCell (p := ⟨H, j, none⟩) hH _).drew : Below _ _ _)⟩, by simp [intOf]; omega⟩
                · rw [← fillTo_set, HF.out]
                  exact (HX.out.set j _).other (a := ⟨H, j, none⟩) hne _
                · rw [← fillTo_set, HF.out]
                  exact (HY.out.other (a := ⟨G, j, none⟩) (Ne.symm hne) _).set j _
              | false =>
                rw [if_neg (by decide)] at HF
                go_wp2_with fail
                go_still_tail 16, (by kernel_rfl)
                go_wp2_with fail
                have HX5 := Lib.hid (HX.out.set j (y0 / 2 ^ min js 32)).drew
                have HY5 := Lib.hid (HY.out.other (a := ⟨G, j, none⟩) (Ne.symm hne) (.int .i32 (y0 / 2 ^ min js 32))).drew
                have HB5 : Hid (Below w1.heap.size w1 (wr.setCell ⟨G, j, none⟩ (.int .i32 (y0 / 2 ^ min js 32))).drew) := (HB.out.setCell (p := ⟨G, j, none⟩) hG _).drew
                have c5 := C1.out
                rw [← HB5.out.cell (by omega)] at c5
                have d5 := HX5.out.cell (i := j) (by rw [List.length_set, fillTo_len]; omega)
                rw [List.getElem_set_self] at d5
                have f5 := HX5.out.free j
                have d6 := HY5.out.cell (i := j) (by rw [fillTo_len]; omega)
                rw [fillTo_at] at d6
                have f6 := HY5.out.free j
                have et : IntKind.i32.wrap (Int.tmod (y0 / 2 ^ min js 32) (2 ^ n)) = Int.tmod (y0 / 2 ^ min js 32) (2 ^ n) := by
                  have := tmod_bd (y0 / 2 ^ min js 32) (2 ^ n) (by omega) (by omega) q1 q2
                  exact wrapI32 (by omega) (by omega)
                have et2 := tmod_bd (y0 / 2 ^ min js 32) (2 ^ n) (by omega) (by omega) q1 q2
                clear d1 f1 d3 f3 c1 HX HY HB d2
                generalize (wr.setCell ⟨G, j, none⟩ (.int .i32 (y0 / 2 ^ min js 32))).drew = w5 at *
                go_still_tail 11, (by kernel_rfl)
                go_wp2_with fail
                refine ⟨⟨j + 1, by omega, by omega, by push_cast; rfl, ?_, ?_, (((HB5.out.setCell (p := ⟨G, j, none⟩) hG _).setCell (p := ⟨H, j, none⟩) hH _).drew : Below _ _ _)⟩, by simp [intOf]; omega⟩
                · have := ((HX5.out.set j (Int.tmod (y0 / 2 ^ min js 32) (2 ^ n))).other (a := ⟨H, j, none⟩) hne (.int .i64 (Int.tmod (y0 / 2 ^ min js 32) (2 ^ n)))).drew
                  rw [List.set_set, ← HF.out, fillTo_set] at this
                  rw [← HF.out]
                  exact this
                · rw [← fillTo_set, HF.out]
                  exact (HY5.out.other (a := ⟨G, j, none⟩) (Ne.symm hne) _).set j _
            · have HV := Lib.hid (show lineOf l j = 0 from by unfold lineOf; rw [if_pos (by rw [HP.out]; omega)])
              rw [HV.out] at HF
              cases over with
              | true =>
                rw [if_pos rfl] at HF
                go_wp2_with fail
                refine ⟨⟨j + 1, by omega, by omega, by push_cast; rfl, ?_, ?_, HB.out.setCell (p := ⟨H, j, none⟩) hH _⟩, by simp [intOf]; omega⟩
                · rw [← fillTo_skip _ _ _ HF.out]
                  exact HX.out.other (a := ⟨H, j, none⟩) hne _
                · have := HY.out.set j (fv l c true j)
                  rw [fillTo_set, HF.out] at this
                  exact this
              | false =>
                rw [if_neg (by decide)] at HF
                go_wp2_with fail
                go_still_tail 11, (by kernel_rfl)
                go_wp2_with fail
                rw [Int.zero_tmod] at HF
                refine ⟨⟨j + 1, by omega, by omega, by push_cast; rfl, ?_, ?_, (((HB.out.setCell (p := ⟨G, j, none⟩) hG _).setCell (p := ⟨H, j, none⟩) hH _).drew : Below _ _ _)⟩, by simp [intOf]; omega⟩
                · have := (HX.out.set j (fv l c false j)).other (a := ⟨H, j, none⟩) hne (.int .i64 0)
                  rw [fillTo_set, HF.out] at this
                  exact this
                · have := (HY.out.other (a := ⟨G, j, none⟩) (Ne.symm hne) (.int .i32 0)).set j (fv l c false j)
                  rw [fillTo_set, HF.out] at this
                  exact this
          · obtain rfl : j = y := by omega
            go_wp2_with fail
            refine ⟨⟨b + 1, j, by omega, by push_cast; rfl, HYE.out, HX, HY, HB⟩, by simp [intOf]; omega⟩
      · obtain rfl : b = 21 := by omega
        obtain rfl : x = 512 := by rw [el_ends.2] at hx; omega
        go_wp2_with fail
        go_ret2
        rw [← fillTo_all]
        have R1 := R_of_rowI (base := w.heap.size) HX.out (by omega)
        have R2 := R_of_rowI (base := w.heap.size) HY.out (by omega)
        rw [fillTo_len] at R1 R2
        exact ⟨_, _, rfl, R1, R2, HW.out.trans (HB.out.mono hsz)⟩
end Go.Proofs.Ytlbjoflmfboeeaa.Bno
