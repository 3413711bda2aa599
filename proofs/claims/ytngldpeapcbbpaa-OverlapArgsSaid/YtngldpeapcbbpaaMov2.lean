/- Texts of this session, merged. -/
import Derived.Test.YtngldpeapcbbpaaMov1
import Derived.Test.YtngldpeapcbbpaaRows
/-
  A lapped transform: forward and back; walks. No condition but those told.
-/
set_option linter.unusedVariables false
set_option linter.unusedSimpArgs false
namespace Go.Proofs.Ytngldpeapcbbpaa.Lap
open Go.RowKit Go.Proofs.Ytngldpeapcbbpaa Go.Proofs.Ytngldpeapcbbpaa.Bnd Go.Proofs.Ytngldpeapcbbpaa.Art Go.Proofs.YtngldpeapcbbpaaW.PrintWords

/-- The lines of samples, and the samples of lines. -/
def fwdv (n un : Nat) (D : Int) (x : List Int) : List Int := (turnv n un D (foldv n x)).map (clampv (-33554432) 33554431)
def backv (n un : Nat) (D : Int) (l : List Int) : List Int := unfv n (turnv n un D l)
theorem turnv_len (n un : Nat) (D : Int) (ys : List Int) : (turnv n un D ys).length = n := by simp [turnv]
theorem turnv_at (n un : Nat) (D : Int) (ys : List Int) (j : Nat) (h : j < n) : (turnv n un D ys).getD j 0 = rdv D (dot un (fun j => ys.getD j 0) n j) := by
  simp [turnv, List.getD, h]
theorem fold_bd {n : Nat} {x : List Int} (h : ∀ j, -1048576 ≤ x.getD j 0 ∧ x.getD j 0 < 1048576) (j : Nat) : -33554432 ≤ (foldv n x).getD j 0 ∧ (foldv n x).getD j 0 ≤ 33554432 := by
  by_cases hj : j < n
  · have e : (foldv n x).getD j 0 = foldAt n x j := by simp [foldv, List.getD, hj]
    rw [e]
    unfold foldAt
    split
    · have a := h (3 * (n / 2) - 1 - j)
      have b := h (3 * (n / 2) + j)
      omega
    · have a := h (j - n / 2)
      have b := h (n - 1 - (j - n / 2))
      omega
  · have e : (foldv n x).getD j 0 = 0 := by simp [foldv, List.getD, hj]
    rw [e]
    omega
theorem fold_len (n : Nat) (x : List Int) : (foldv n x).length = n := by simp [foldv]
theorem dot_bd {un n k : Nat} {B : Int} (hB : 0 ≤ B) {u : Nat → Int} (h : ∀ j, -B ≤ u j ∧ u j ≤ B) : -(n * (B * 16777216)) ≤ dot un u n k ∧ dot un u n k ≤ n * (B * 16777216) :=
  sum_bd fun j _ => mul_bd hB (by decide) (h j) (wgt_bd un k j)
theorem turn_bd512 {ys : List Int} (bd : ∀ j, -33554432 ≤ ys.getD j 0 ∧ ys.getD j 0 ≤ 33554432) (j : Nat) : -1073741824 ≤ (turnv 512 1 268435456 ys).getD j 0 ∧ (turnv 512 1 268435456 ys).getD j 0 ≤ 1073741824 := by
  by_cases hj : j < 512
  · rw [turnv_at _ _ _ _ _ hj]
    have := dot_bd (un := 1) (n := 512) (k := j) (B := 33554432) (by decide) bd
    generalize dot 1 (fun j => ys.getD j 0) 512 j = S at this
    unfold rdv
    omega
  · have e : (turnv 512 1 268435456 ys).getD j 0 = 0 := by simp [turnv, List.getD, hj]
    rw [e]
    omega
set_option maxHeartbeats 1000000 in
set_option maxRecDepth 100000 in
theorem Forward512 {w : World} {t c : Nat} (h : IsLap w t c 512 1 28) {A : Option Addr} {cap : Nat} {x : List Int} (src : Src w .i32 (.slice A 1024 cap) x) (hl : x.length = 1024) (hw : within 1048576 x = true) :
    Calls Try.prog 22 #[.pointer (some ⟨t, 0, none⟩), .slice A 1024 cap] w fun e w' => ∃ g, e = .returned (.tuple #[.slice (some ⟨g, 0, none⟩) 512 512, .int .i64 0]) ∧ w.heap.size ≤ g ∧ RowI w' 21 .i32 g 512 (fwdv 512 1 268435456 x) ∧ Below w.heap.size w w' := by
  have ht := h.blk.lt
  have c1 := h.blk.cell (i := 1) rfl
  have bd := within_at hw (by decide)
  have BD := Lib.hid bd
  have HL := Lib.hid h
  have SR := Lib.hid src
  have HX := Lib.hid hl
  have HW := Lib.hid hw
  clear h src hl hw bd
  have hm := mk32 512 (by decide)
  rw [show ((512 : Nat) : Int) = 512 from rfl] at hm
  obtain ⟨T, hT⟩ : ∃ T, turnv 512 1 268435456 (foldv 512 x) = T := ⟨_, rfl⟩
  obtain ⟨f, hf⟩ : ∃ f : Nat → Int, f = fun k => clampv (-33554432) 33554431 (T.getD k 0) := ⟨_, rfl⟩
  have tl : T.length = 512 := by rw [← hT]; exact turnv_len _ _ _ _
  have ef : fwdv 512 1 268435456 x = fillTo f 512 512 := by
    rw [fillTo_all]
    unfold fwdv
    rw [hT, hf]
    apply List.ext_getElem
    · simp [tl]
    · intro j h1 h2
      simp at h1 h2 ⊢
      rw [List.getElem?_eq_getElem h1]
      rfl
  rw [ef]
  have tb : ∀ j, -1073741824 ≤ T.getD j 0 ∧ T.getD j 0 ≤ 1073741824 := by rw [← hT]; exact turn_bd512 (fold_bd BD.out)
  have TB := Lib.hid tb
  have HT := Lib.hid hT
  have HF := Lib.hid hf
  have TL := Lib.hid tl
  clear hT hf tl ef tb
  have FT : Hid ((within 1048576 x && (((1024 : Nat) : Int) == 1024)) = true) := Lib.hid (by rw [HW.out]; rfl)
  have H0 : Hid (Hp w (w.alloc (.cells (madeCells #[.int .i32 0] 512) 21)) [rowA 21 .i32 w.heap.size 512 (fillTo f 512 0)]) := Lib.hid (by
    rw [fillTo_zero]
    exact (Hp.nil w).new_row 21 .i32 512 0 (by decide))
  go_enter Try.func22, Try.ntmps22
  go_wp2_with fail
  refine (fits21 SR.out HX.out (by decide) (fun j => by have := BD.out j; omega) _).mono ?_
  rintro e1 w1 ⟨rfl, he⟩
  subst w1
  rw [FT.out]
  go_wp2_with fail
  refine (fold512 (Src.below SR.out H0.out.b) HX.out BD.out).mono ?_
  rintro e2 w2 ⟨g1, rfl, hg1, hr1, b1⟩
  have H1 := Lib.hid (H0.out.add_row b1 hr1 hg1)
  clear hg1 hr1 b1 H0
  go_wp2_with fail
  refine (turn512 (HL.out.below H1.out.b) (by have := Src.of_sl (Sl.row H1.out.row); rw [fold_len] at this; exact this) (fold_len _ _) (fold_bd BD.out)).mono ?_
  rintro e3 w3 ⟨g2, rfl, hg2, hr2, b2⟩
  rw [HT.out] at hr2
  have H2 : Hid (Hp w w3 [rowA 21 .i32 w.heap.size 512 (fillTo f 512 0), rowA 2 .i64 g2 512 T]) := Lib.hid ((H1.out.add_row b2 hr2 hg2).pk [2, 0])
  clear hg2 hr2 b2 H1 c1
  go_wp2_with fail
  go_loopw [35] (fun u wr => ∃ k : Nat, k ≤ 512 ∧ u = .int .i64 (k : Int) ∧ Hid (Hp w wr [rowA 21 .i32 w.heap.size 512 (fillTo f 512 k), rowA 2 .i64 g2 512 T])) (fun u _ => 512 - (intOf u).toNat)
  case atStart => exact ⟨0, by omega, rfl, H2⟩
  case round =>
    clear H2
    obtain ⟨k, hk, rfl, H⟩ := hrel
    by_cases hlt : k < 512
    · have ik : (k : Int) < 512 := by omega
      have hc := H.out.up1.row.cell (i := k) (by rw [TL.out]; omega)
      have tb := TB.out k
      have fk : f k = clampv (-33554432) 33554431 (T.getD k 0) := by rw [HF.out]
      rw [show T[k]'(by rw [TL.out]; omega) = T.getD k 0 by simp [List.getD, List.getElem?_eq_getElem (show k < T.length by rw [TL.out]; omega)]] at hc
      obtain ⟨v, hv⟩ : ∃ v, T.getD k 0 = v := ⟨_, rfl⟩
      rw [hv] at hc tb fk
      have cb := clamp_bd (a := -33554432) (b := 33554431) (by decide) v
      rw [← fk] at cb
      have FK := Lib.hid fk
      have fr := H.out.row.free k
      have fc := H.out.row.cell (i := k) (by rw [fillTo_len]; omega)
      rw [fillTo_at] at fc
      have hs := H.out.set k (f k)
      rw [fillTo_set] at hs
      have HS := Lib.hid hs
      clear hv fk hs
      go_wp2_with fail
      refine (Sat26 v (by omega) (by omega) _).mono ?_
      rw [← FK.out]
      rintro e4 w4 ⟨rfl, he⟩
      subst w4
      obtain ⟨z, hz⟩ : ∃ z, f k = z := ⟨_, rfl⟩
      rw [hz] at cb HS ⊢
      clear FK hz
      go_wp2_with fail
      go_roundw
      case rel => exact ⟨k + 1, by omega, by go_num, HS⟩
      case measure => simp [intOf]; omega
    · obtain rfl : k = 512 := by omega
      go_wp2_with fail
      go_ret2
      exact ⟨_, rfl, Nat.le_refl _, H.out.row, H.out.b⟩
/-- The same numbers, in order. -/
theorem same512 (x : List Int) (hl : x.length = 512) : fillTo (fun k => x.getD k 0) 512 512 = x := by
  rw [fillTo_all]
  apply List.ext_getElem
  · simp [hl]
  · intro j h1 h2
    simp [List.getElem?_eq_getElem h2]
set_option maxHeartbeats 1000000 in
set_option maxRecDepth 100000 in
theorem Back512 {w : World} {t c : Nat} (h : IsLap w t c 512 1 28) {A : Option Addr} {cap : Nat} {x : List Int} (src : Src w .i32 (.slice A 512 cap) x) (hl : x.length = 512) (hw : within 33554432 x = true) :
    Calls Try.prog 18 #[.pointer (some ⟨t, 0, none⟩), .slice A 512 cap] w fun e w' => ∃ g, e = .returned (.tuple #[.slice (some ⟨g, 0, none⟩) 1024 1024, .int .i64 0]) ∧ w.heap.size ≤ g ∧ RowI w' 21 .i32 g 1024 (backv 512 1 268435456 x) ∧ Below w.heap.size w w' := by
  have ht := h.blk.lt
  have c1 := h.blk.cell (i := 1) rfl
  have bd := within_at hw (by decide)
  obtain ⟨ad, rfl, _⟩ := Src.at src (j := 0) (by omega)
  have HA : Hid (∀ wr, Hp w wr [] → ∀ j, j < 512 → wr.cell? (ad.add j) = some (.int .i32 (x.getD j 0))) := Lib.hid fun wr H j hj => by
    obtain ⟨_, e, hc⟩ := Src.at (Src.below src H.b) (j := j) (by omega)
    cases e
    exact hc
  have BD := Lib.hid bd
  have HL := Lib.hid h
  have SR := Lib.hid src
  have HX := Lib.hid hl
  have HW := Lib.hid hw
  clear h src hl hw bd
  have hm := mk64 512 (by decide)
  rw [show ((512 : Nat) : Int) = 512 from rfl] at hm
  have hm2 := mk32 1024 (by decide)
  rw [show ((1024 : Nat) : Int) = 1024 from rfl] at hm2
  obtain ⟨T, hT⟩ : ∃ T, turnv 512 1 268435456 x = T := ⟨_, rfl⟩
  have tl : T.length = 512 := by rw [← hT]; exact turnv_len _ _ _ _
  have tb : ∀ j, -1073741824 ≤ T.getD j 0 ∧ T.getD j 0 ≤ 1073741824 := by rw [← hT]; exact turn_bd512 (fun j => by have := BD.out j; omega)
  obtain ⟨f, hf⟩ : ∃ f : Nat → Int, f = unfAt 512 T := ⟨_, rfl⟩
  obtain ⟨p, hp⟩ : ∃ p : Nat → Nat → Bool, p = fun k j => decide (768 ≤ j + min k 256 ∧ j < 768 + min k 256) || decide (j + 256 < k ∨ (j < 512 ∧ 512 + 256 ≤ j + k)) := ⟨_, rfl⟩
  have ef : backv 512 1 268435456 x = pf f (p 512) 1024 := by
    rw [pf_all _ _ _ (fun j hj => by rw [hp]; simp; omega)]
    unfold backv unfv
    rw [hT, hf]
  rw [ef]
  have HT := Lib.hid hT
  have HF := Lib.hid hf
  have HP := Lib.hid hp
  have TL := Lib.hid tl
  have TB := Lib.hid tb
  obtain ⟨fx, hfx⟩ : ∃ fx : Nat → Int, fx = fun k => x.getD k 0 := ⟨_, rfl⟩
  have FX : Hid (fillTo fx 512 512 = x) := Lib.hid (by rw [hfx]; exact same512 x HX.out)
  have HFX := Lib.hid hfx
  clear hT hf tl tb ef hp hfx
  have FT : Hid ((within 33554432 x && (((512 : Nat) : Int) == 512)) = true) := Lib.hid (by rw [HW.out]; rfl)
  have H0 : Hid (Hp w (w.alloc (.cells (madeCells #[.int .i64 0] 512) 2)) [rowA 2 .i64 w.heap.size 512 (fillTo fx 512 0)]) := Lib.hid (by
    rw [fillTo_zero]
    exact (Hp.nil w).new_row 2 .i64 512 0 (by decide))
  go_enter Try.func18, Try.ntmps18
  go_wp2_with fail
  refine (fits26 SR.out HX.out (by decide) (fun j => by have := BD.out j; omega) _).mono ?_
  rintro e1 w1 ⟨rfl, he⟩
  subst w1
  rw [FT.out]
  go_wp2_with fail
  go_loopw [32] (fun u wr => ∃ k : Nat, k ≤ 512 ∧ u = .int .i64 (k : Int) ∧ Hid (Hp w wr [rowA 2 .i64 w.heap.size 512 (fillTo fx 512 k)])) (fun u _ => 512 - (intOf u).toNat)
  case atStart => exact ⟨0, by omega, rfl, H0⟩
  case round =>
    clear H0
    obtain ⟨k, hk, rfl, H⟩ := hrel
    by_cases hlt : k < 512
    · have ik : (k : Int) < 512 := by omega
      have hc := HA.out wr (H.out.pk []) k hlt
      have b1 := BD.out k
      have fk : fx k = x.getD k 0 := by rw [HFX.out]
      rw [← fk] at hc b1
      have fr := H.out.row.free k
      have fc := H.out.row.cell (i := k) (by rw [fillTo_len]; omega)
      rw [fillTo_at] at fc
      have hs := H.out.set k (fx k)
      rw [fillTo_set] at hs
      have HS := Lib.hid hs
      obtain ⟨v, hv⟩ : ∃ v, fx k = v := ⟨_, rfl⟩
      rw [hv] at hc b1 HS
      clear fk hs hv
      go_wp2_with fail
      go_roundw
      case rel => exact ⟨k + 1, by omega, by go_num, HS⟩
      case measure => simp [intOf]; omega
    · obtain rfl : k = 512 := by omega
      have c1 := Hp_cell H.out (HL.out.blk.cell (i := 1) rfl)
      have H1 := Lib.hid (H.out.new_row 21 .i32 1024 0 (by decide))
      have hz := H.out.size
      have hz2 : t < wr.heap.size := by omega
      go_wp2_with fail
      have sx : Src (wr.alloc (.cells (madeCells #[.int .i32 0] 1024) 21)) .i64 (.slice (some ⟨w.heap.size, 0, none⟩) 512 512) x := by
        have := Src.of_sl (Sl.row H1.out.up1.row)
        rw [fillTo_len, FX.out] at this
        exact this
      refine (turn512 (HL.out.below H1.out.b) sx HX.out (fun j => by have := BD.out j; omega)).mono ?_
      clear sx
      rintro e3 w3 ⟨g2, rfl, hg2, hr2, b2⟩
      rw [HT.out] at hr2
      have H2 : Hid (Hp w w3 [rowA 21 .i32 wr.heap.size 1024 (pf f (p 0) 1024), rowA 2 .i64 g2 512 T]) := Lib.hid (by
        rw [pf_none _ _ _ (fun j hj => by rw [HP.out]; simp; omega)]
        exact (H1.out.add_row b2 hr2 hg2).pk [1, 0])
      have b3 := H2.out.size
      clear hg2 hr2 b2 H1 c1 H
      obtain ⟨gz, hgz⟩ : ∃ gz, wr.heap.size = gz := ⟨_, rfl⟩
      rw [hgz] at H2 ⊢
      have hg : w.heap.size ≤ gz := by omega
      clear hgz hz hz2
      go_wp2_with fail
      go_loopw [58] (fun u w5 => ∃ k : Nat, k ≤ 512 ∧ u = .int .i64 (k : Int) ∧ Hid (Hp w w5 [rowA 21 .i32 gz 1024 (pf f (p k) 1024), rowA 2 .i64 g2 512 T])) (fun u _ => 512 - (intOf u).toNat)
      case atStart => exact ⟨0, by omega, rfl, H2⟩
      case round =>
        clear H2 b3
        obtain ⟨k, hk, rfl, H⟩ := hrel
        have ht2 : t < wr.heap.size := by have := H.out.size; omega
        have c1 := Hp_cell H.out (HL.out.blk.cell (i := 1) rfl)
        by_cases hlt : k < 512
        · have ik : (k : Int) < 512 := by omega
          have hc := H.out.up1.row.cell (i := k) (by rw [TL.out]; omega)
          have tb := TB.out k
          rw [show T[k]'(by rw [TL.out]; omega) = T.getD k 0 by simp [List.getD, List.getElem?_eq_getElem (show k < T.length by rw [TL.out]; omega)]] at hc
          have fk1 : k < 256 → f (767 - k) = -T.getD k 0 ∧ f (768 + k) = -T.getD k 0 := fun h => by
            rw [HF.out]
            unfold unfAt
            constructor
            · rw [if_neg (by omega), if_neg (by omega), if_pos (by omega)]; congr 2; omega
            · rw [if_neg (by omega), if_neg (by omega), if_neg (by omega)]; congr 2; omega
          have fk2 : ¬ k < 256 → f (k - 256) = T.getD k 0 ∧ f (511 - (k - 256)) = -T.getD k 0 := fun h => by
            rw [HF.out]
            unfold unfAt
            constructor
            · rw [if_pos (by omega)]; congr 1; omega
            · rw [if_neg (by omega), if_pos (by omega)]; congr 2; omega
          obtain ⟨y, hy⟩ : ∃ y, T.getD k 0 = y := ⟨_, rfl⟩
          rw [hy] at hc tb fk1 fk2
          clear hy
          by_cases hh : k < 256
          · have ih : (k : Int) < 256 := by omega
            obtain ⟨f1, f2⟩ := fk1 hh
            obtain ⟨i1, hi1⟩ : ∃ i1 : Nat, i1 = 767 - k := ⟨_, rfl⟩
            obtain ⟨i2, hi2⟩ : ∃ i2 : Nat, i2 = 768 + k := ⟨_, rfl⟩
            rw [← hi1] at f1
            rw [← hi2] at f2
            have hs := (H.out.set i1 (f i1)).set i2 (f i2)
            rw [pf_set f _ (fun j => p k j || j == i1) _ _ (fun j _ => rfl), pf_set f _ (p (k + 1)) _ _ (fun j hj => by rw [HP.out, Bool.eq_iff_iff]; simp; omega), f1, f2] at hs
            have HS := Lib.hid hs
            have r1 := H.out.row.free i1
            have r2 := H.out.row.free i2
            have q1 := H.out.row.cell (i := i1) (by rw [pf_len]; omega)
            have q2 := H.out.row.cell (i := i2) (by rw [pf_len]; omega)
            rw [pf_get] at q1 q2
            have e1 : (767 - (k : Int)).toNat = i1 := by omega
            have e2 : (768 + (k : Int)).toNat = i2 := by omega
            have l1 : i1 < 1024 := by omega
            have l2 : i2 < 1024 := by omega
            clear hs f1 f2 fk1 fk2 hi1 hi2
            go_wp2_with fail
            go_roundw
            case rel => exact ⟨k + 1, by omega, by go_num, HS⟩
            case measure => simp [intOf]; omega
          · have ih : ¬ (k : Int) < 256 := by omega
            obtain ⟨f1, f2⟩ := fk2 hh
            obtain ⟨i1, hi1⟩ : ∃ i1 : Nat, i1 = k - 256 := ⟨_, rfl⟩
            obtain ⟨i2, hi2⟩ : ∃ i2 : Nat, i2 = 511 - (k - 256) := ⟨_, rfl⟩
            rw [← hi1] at f1
            rw [← hi2] at f2
            have hs := (H.out.set i1 (f i1)).set i2 (f i2)
            rw [pf_set f _ (fun j => p k j || j == i1) _ _ (fun j _ => rfl), pf_set f _ (p (k + 1)) _ _ (fun j hj => by rw [HP.out, Bool.eq_iff_iff]; simp; omega), f1, f2] at hs
            have HS := Lib.hid hs
            have r1 := H.out.row.free i1
            have r2 := H.out.row.free i2
            have q1 := H.out.row.cell (i := i1) (by rw [pf_len]; omega)
            have q2 := H.out.row.cell (i := i2) (by rw [pf_len]; omega)
            rw [pf_get] at q1 q2
            have e1 : ((k : Int) - 256).toNat = i1 := by omega
            have e2 : (511 - ((k : Int) - 256)).toNat = i2 := by omega
            have l1 : i1 < 1024 := by omega
            have l2 : i2 < 1024 := by omega
            have o1 : 0 ≤ (k : Int) - 256 := by omega
            clear hs f1 f2 fk1 fk2 hi1 hi2
            go_wp2_with fail
            go_roundw
            case rel => exact ⟨k + 1, by omega, by go_num, HS⟩
            case measure => simp [intOf]; omega
        · obtain rfl : k = 512 := by omega
          go_wp2_with fail
          go_ret2
          exact ⟨_, rfl, hg, H.out.row, H.out.b⟩
theorem turn_bd128 {ys : List Int} (bd : ∀ j, -33554432 ≤ ys.getD j 0 ∧ ys.getD j 0 ≤ 33554432) (j : Nat) : -1073741824 ≤ (turnv 128 4 134217728 ys).getD j 0 ∧ (turnv 128 4 134217728 ys).getD j 0 ≤ 1073741824 := by
  by_cases hj : j < 128
  · rw [turnv_at _ _ _ _ _ hj]
    have := dot_bd (un := 4) (n := 128) (k := j) (B := 33554432) (by decide) bd
    generalize dot 4 (fun j => ys.getD j 0) 128 j = S at this
    unfold rdv
    omega
  · have e : (turnv 128 4 134217728 ys).getD j 0 = 0 := by simp [turnv, List.getD, hj]
    rw [e]
    omega
set_option maxHeartbeats 1000000 in
set_option maxRecDepth 100000 in
theorem Forward128 {w : World} {t c : Nat} (h : IsLap w t c 128 4 27) {A : Option Addr} {cap : Nat} {x : List Int} (src : Src w .i32 (.slice A 256 cap) x) (hl : x.length = 256) (hw : within 1048576 x = true) :
    Calls Try.prog 22 #[.pointer (some ⟨t, 0, none⟩), .slice A 256 cap] w fun e w' => ∃ g, e = .returned (.tuple #[.slice (some ⟨g, 0, none⟩) 128 128, .int .i64 0]) ∧ w.heap.size ≤ g ∧ RowI w' 21 .i32 g 128 (fwdv 128 4 134217728 x) ∧ Below w.heap.size w w' := by
  have ht := h.blk.lt
  have c1 := h.blk.cell (i := 1) rfl
  have bd := within_at hw (by decide)
  have BD := Lib.hid bd
  have HL := Lib.hid h
  have SR := Lib.hid src
  have HX := Lib.hid hl
  have HW := Lib.hid hw
  clear h src hl hw bd
  have hm := mk32 128 (by decide)
  rw [show ((128 : Nat) : Int) = 128 from rfl] at hm
  obtain ⟨T, hT⟩ : ∃ T, turnv 128 4 134217728 (foldv 128 x) = T := ⟨_, rfl⟩
  obtain ⟨f, hf⟩ : ∃ f : Nat → Int, f = fun k => clampv (-33554432) 33554431 (T.getD k 0) := ⟨_, rfl⟩
  have tl : T.length = 128 := by rw [← hT]; exact turnv_len _ _ _ _
  have ef : fwdv 128 4 134217728 x = fillTo f 128 128 := by
    rw [fillTo_all]
    unfold fwdv
    rw [hT, hf]
    apply List.ext_getElem
    · simp [tl]
    · intro j h1 h2
      simp at h1 h2 ⊢
      rw [List.getElem?_eq_getElem h1]
      rfl
  rw [ef]
  have tb : ∀ j, -1073741824 ≤ T.getD j 0 ∧ T.getD j 0 ≤ 1073741824 := by rw [← hT]; exact turn_bd128 (fold_bd BD.out)
  have TB := Lib.hid tb
  have HT := Lib.hid hT
  have HF := Lib.hid hf
  have TL := Lib.hid tl
  clear hT hf tl ef tb
  have FT : Hid ((within 1048576 x && (((256 : Nat) : Int) == 256)) = true) := Lib.hid (by rw [HW.out]; rfl)
  have H0 : Hid (Hp w (w.alloc (.cells (madeCells #[.int .i32 0] 128) 21)) [rowA 21 .i32 w.heap.size 128 (fillTo f 128 0)]) := Lib.hid (by
    rw [fillTo_zero]
    exact (Hp.nil w).new_row 21 .i32 128 0 (by decide))
  go_enter Try.func22, Try.ntmps22
  go_wp2_with fail
  refine (fits21 SR.out HX.out (by decide) (fun j => by have := BD.out j; omega) _).mono ?_
  rintro e1 w1 ⟨rfl, he⟩
  subst w1
  rw [FT.out]
  go_wp2_with fail
  refine (fold128 (Src.below SR.out H0.out.b) HX.out BD.out).mono ?_
  rintro e2 w2 ⟨g1, rfl, hg1, hr1, b1⟩
  have H1 := Lib.hid (H0.out.add_row b1 hr1 hg1)
  clear hg1 hr1 b1 H0
  go_wp2_with fail
  refine (turn128 (HL.out.below H1.out.b) (by have := Src.of_sl (Sl.row H1.out.row); rw [fold_len] at this; exact this) (fold_len _ _) (fold_bd BD.out)).mono ?_
  rintro e3 w3 ⟨g2, rfl, hg2, hr2, b2⟩
  rw [HT.out] at hr2
  have H2 : Hid (Hp w w3 [rowA 21 .i32 w.heap.size 128 (fillTo f 128 0), rowA 2 .i64 g2 128 T]) := Lib.hid ((H1.out.add_row b2 hr2 hg2).pk [2, 0])
  clear hg2 hr2 b2 H1 c1
  go_wp2_with fail
  go_loopw [35] (fun u wr => ∃ k : Nat, k ≤ 128 ∧ u = .int .i64 (k : Int) ∧ Hid (Hp w wr [rowA 21 .i32 w.heap.size 128 (fillTo f 128 k), rowA 2 .i64 g2 128 T])) (fun u _ => 128 - (intOf u).toNat)
  case atStart => exact ⟨0, by omega, rfl, H2⟩
  case round =>
    clear H2
    obtain ⟨k, hk, rfl, H⟩ := hrel
    by_cases hlt : k < 128
    · have ik : (k : Int) < 128 := by omega
      have hc := H.out.up1.row.cell (i := k) (by rw [TL.out]; omega)
      have tb := TB.out k
      have fk : f k = clampv (-33554432) 33554431 (T.getD k 0) := by rw [HF.out]
      rw [show T[k]'(by rw [TL.out]; omega) = T.getD k 0 by simp [List.getD, List.getElem?_eq_getElem (show k < T.length by rw [TL.out]; omega)]] at hc
      obtain ⟨v, hv⟩ : ∃ v, T.getD k 0 = v := ⟨_, rfl⟩
      rw [hv] at hc tb fk
      have cb := clamp_bd (a := -33554432) (b := 33554431) (by decide) v
      rw [← fk] at cb
      have FK := Lib.hid fk
      have fr := H.out.row.free k
      have fc := H.out.row.cell (i := k) (by rw [fillTo_len]; omega)
      rw [fillTo_at] at fc
      have hs := H.out.set k (f k)
      rw [fillTo_set] at hs
      have HS := Lib.hid hs
      clear hv fk hs
      go_wp2_with fail
      refine (Sat26 v (by omega) (by omega) _).mono ?_
      rw [← FK.out]
      rintro e4 w4 ⟨rfl, he⟩
      subst w4
      obtain ⟨z, hz⟩ : ∃ z, f k = z := ⟨_, rfl⟩
      rw [hz] at cb HS ⊢
      clear FK hz
      go_wp2_with fail
      go_roundw
      case rel => exact ⟨k + 1, by omega, by go_num, HS⟩
      case measure => simp [intOf]; omega
    · obtain rfl : k = 128 := by omega
      go_wp2_with fail
      go_ret2
      exact ⟨_, rfl, Nat.le_refl _, H.out.row, H.out.b⟩
/-- The same numbers, in order. -/
theorem same128 (x : List Int) (hl : x.length = 128) : fillTo (fun k => x.getD k 0) 128 128 = x := by
  rw [fillTo_all]
  apply List.ext_getElem
  · simp [hl]
  · intro j h1 h2
    simp [List.getElem?_eq_getElem h2]
set_option maxHeartbeats 1000000 in
set_option maxRecDepth 100000 in
theorem Back128 {w : World} {t c : Nat} (h : IsLap w t c 128 4 27) {A : Option Addr} {cap : Nat} {x : List Int} (src : Src w .i32 (.slice A 128 cap) x) (hl : x.length = 128) (hw : within 33554432 x = true) :
    Calls Try.prog 18 #[.pointer (some ⟨t, 0, none⟩), .slice A 128 cap] w fun e w' => ∃ g, e = .returned (.tuple #[.slice (some ⟨g, 0, none⟩) 256 256, .int .i64 0]) ∧ w.heap.size ≤ g ∧ RowI w' 21 .i32 g 256 (backv 128 4 134217728 x) ∧ Below w.heap.size w w' := by
  have ht := h.blk.lt
  have c1 := h.blk.cell (i := 1) rfl
  have bd := within_at hw (by decide)
  obtain ⟨ad, rfl, _⟩ := Src.at src (j := 0) (by omega)
  have HA : Hid (∀ wr, Hp w wr [] → ∀ j, j < 128 → wr.cell? (ad.add j) = some (.int .i32 (x.getD j 0))) := Lib.hid fun wr H j hj => by
    obtain ⟨_, e, hc⟩ := Src.at (Src.below src H.b) (j := j) (by omega)
    cases e
    exact hc
  have BD := Lib.hid bd
  have HL := Lib.hid h
  have SR := Lib.hid src
  have HX := Lib.hid hl
  have HW := Lib.hid hw
  clear h src hl hw bd
  have hm := mk64 128 (by decide)
  rw [show ((128 : Nat) : Int) = 128 from rfl] at hm
  have hm2 := mk32 256 (by decide)
  rw [show ((256 : Nat) : Int) = 256 from rfl] at hm2
  obtain ⟨T, hT⟩ : ∃ T, turnv 128 4 134217728 x = T := ⟨_, rfl⟩
  have tl : T.length = 128 := by rw [← hT]; exact turnv_len _ _ _ _
  have tb : ∀ j, -1073741824 ≤ T.getD j 0 ∧ T.getD j 0 ≤ 1073741824 := by rw [← hT]; exact turn_bd128 (fun j => by have := BD.out j; omega)
  obtain ⟨f, hf⟩ : ∃ f : Nat → Int, f = unfAt 128 T := ⟨_, rfl⟩
  obtain ⟨p, hp⟩ : ∃ p : Nat → Nat → Bool, p = fun k j => decide (192 ≤ j + min k 64 ∧ j < 192 + min k 64) || decide (j + 64 < k ∨ (j < 128 ∧ 128 + 64 ≤ j + k)) := ⟨_, rfl⟩
  have ef : backv 128 4 134217728 x = pf f (p 128) 256 := by
    rw [pf_all _ _ _ (fun j hj => by rw [hp]; simp; omega)]
    unfold backv unfv
    rw [hT, hf]
  rw [ef]
  have HT := Lib.hid hT
  have HF := Lib.hid hf
  have HP := Lib.hid hp
  have TL := Lib.hid tl
  have TB := Lib.hid tb
  obtain ⟨fx, hfx⟩ : ∃ fx : Nat → Int, fx = fun k => x.getD k 0 := ⟨_, rfl⟩
  have FX : Hid (fillTo fx 128 128 = x) := Lib.hid (by rw [hfx]; exact same128 x HX.out)
  have HFX := Lib.hid hfx
  clear hT hf tl tb ef hp hfx
  have FT : Hid ((within 33554432 x && (((128 : Nat) : Int) == 128)) = true) := Lib.hid (by rw [HW.out]; rfl)
  have H0 : Hid (Hp w (w.alloc (.cells (madeCells #[.int .i64 0] 128) 2)) [rowA 2 .i64 w.heap.size 128 (fillTo fx 128 0)]) := Lib.hid (by
    rw [fillTo_zero]
    exact (Hp.nil w).new_row 2 .i64 128 0 (by decide))
  go_enter Try.func18, Try.ntmps18
  go_wp2_with fail
  refine (fits26 SR.out HX.out (by decide) (fun j => by have := BD.out j; omega) _).mono ?_
  rintro e1 w1 ⟨rfl, he⟩
  subst w1
  rw [FT.out]
  go_wp2_with fail
  go_loopw [32] (fun u wr => ∃ k : Nat, k ≤ 128 ∧ u = .int .i64 (k : Int) ∧ Hid (Hp w wr [rowA 2 .i64 w.heap.size 128 (fillTo fx 128 k)])) (fun u _ => 128 - (intOf u).toNat)
  case atStart => exact ⟨0, by omega, rfl, H0⟩
  case round =>
    clear H0
    obtain ⟨k, hk, rfl, H⟩ := hrel
    by_cases hlt : k < 128
    · have ik : (k : Int) < 128 := by omega
      have hc := HA.out wr (H.out.pk []) k hlt
      have b1 := BD.out k
      have fk : fx k = x.getD k 0 := by rw [HFX.out]
      rw [← fk] at hc b1
      have fr := H.out.row.free k
      have fc := H.out.row.cell (i := k) (by rw [fillTo_len]; omega)
      rw [fillTo_at] at fc
      have hs := H.out.set k (fx k)
      rw [fillTo_set] at hs
      have HS := Lib.hid hs
      obtain ⟨v, hv⟩ : ∃ v, fx k = v := ⟨_, rfl⟩
      rw [hv] at hc b1 HS
      clear fk hs hv
      go_wp2_with fail
      go_roundw
      case rel => exact ⟨k + 1, by omega, by go_num, HS⟩
      case measure => simp [intOf]; omega
    · obtain rfl : k = 128 := by omega
      have c1 := Hp_cell H.out (HL.out.blk.cell (i := 1) rfl)
      have H1 := Lib.hid (H.out.new_row 21 .i32 256 0 (by decide))
      have hz := H.out.size
      have hz2 : t < wr.heap.size := by omega
      go_wp2_with fail
      have sx : Src (wr.alloc (.cells (madeCells #[.int .i32 0] 256) 21)) .i64 (.slice (some ⟨w.heap.size, 0, none⟩) 128 128) x := by
        have := Src.of_sl (Sl.row H1.out.up1.row)
        rw [fillTo_len, FX.out] at this
        exact this
      refine (turn128 (HL.out.below H1.out.b) sx HX.out (fun j => by have := BD.out j; omega)).mono ?_
      clear sx
      rintro e3 w3 ⟨g2, rfl, hg2, hr2, b2⟩
      rw [HT.out] at hr2
      have H2 : Hid (Hp w w3 [rowA 21 .i32 wr.heap.size 256 (pf f (p 0) 256), rowA 2 .i64 g2 128 T]) := Lib.hid (by
        rw [pf_none _ _ _ (fun j hj => by rw [HP.out]; simp; omega)]
        exact (H1.out.add_row b2 hr2 hg2).pk [1, 0])
      have b3 := H2.out.size
      clear hg2 hr2 b2 H1 c1 H
      obtain ⟨gz, hgz⟩ : ∃ gz, wr.heap.size = gz := ⟨_, rfl⟩
      rw [hgz] at H2 ⊢
      have hg : w.heap.size ≤ gz := by omega
      clear hgz hz hz2
      go_wp2_with fail
      go_loopw [58] (fun u w5 => ∃ k : Nat, k ≤ 128 ∧ u = .int .i64 (k : Int) ∧ Hid (Hp w w5 [rowA 21 .i32 gz 256 (pf f (p k) 256), rowA 2 .i64 g2 128 T])) (fun u _ => 128 - (intOf u).toNat)
      case atStart => exact ⟨0, by omega, rfl, H2⟩
      case round =>
        clear H2 b3
        obtain ⟨k, hk, rfl, H⟩ := hrel
        have ht2 : t < wr.heap.size := by have := H.out.size; omega
        have c1 := Hp_cell H.out (HL.out.blk.cell (i := 1) rfl)
        by_cases hlt : k < 128
        · have ik : (k : Int) < 128 := by omega
          have hc := H.out.up1.row.cell (i := k) (by rw [TL.out]; omega)
          have tb := TB.out k
          rw [show T[k]'(by rw [TL.out]; omega) = T.getD k 0 by simp [List.getD, List.getElem?_eq_getElem (show k < T.length by rw [TL.out]; omega)]] at hc
          have fk1 : k < 64 → f (191 - k) = -T.getD k 0 ∧ f (192 + k) = -T.getD k 0 := fun h => by
            rw [HF.out]
            unfold unfAt
            constructor
            · rw [if_neg (by omega), if_neg (by omega), if_pos (by omega)]; congr 2; omega
            · rw [if_neg (by omega), if_neg (by omega), if_neg (by omega)]; congr 2; omega
          have fk2 : ¬ k < 64 → f (k - 64) = T.getD k 0 ∧ f (127 - (k - 64)) = -T.getD k 0 := fun h => by
            rw [HF.out]
            unfold unfAt
            constructor
            · rw [if_pos (by omega)]; congr 1; omega
            · rw [if_neg (by omega), if_pos (by omega)]; congr 2; omega
          obtain ⟨y, hy⟩ : ∃ y, T.getD k 0 = y := ⟨_, rfl⟩
          rw [hy] at hc tb fk1 fk2
          clear hy
          by_cases hh : k < 64
          · have ih : (k : Int) < 64 := by omega
            obtain ⟨f1, f2⟩ := fk1 hh
            obtain ⟨i1, hi1⟩ : ∃ i1 : Nat, i1 = 191 - k := ⟨_, rfl⟩
            obtain ⟨i2, hi2⟩ : ∃ i2 : Nat, i2 = 192 + k := ⟨_, rfl⟩
            rw [← hi1] at f1
            rw [← hi2] at f2
            have hs := (H.out.set i1 (f i1)).set i2 (f i2)
            rw [pf_set f _ (fun j => p k j || j == i1) _ _ (fun j _ => rfl), pf_set f _ (p (k + 1)) _ _ (fun j hj => by rw [HP.out, Bool.eq_iff_iff]; simp; omega), f1, f2] at hs
            have HS := Lib.hid hs
            have r1 := H.out.row.free i1
            have r2 := H.out.row.free i2
            have q1 := H.out.row.cell (i := i1) (by rw [pf_len]; omega)
            have q2 := H.out.row.cell (i := i2) (by rw [pf_len]; omega)
            rw [pf_get] at q1 q2
            have e1 : (191 - (k : Int)).toNat = i1 := by omega
            have e2 : (192 + (k : Int)).toNat = i2 := by omega
            have l1 : i1 < 256 := by omega
            have l2 : i2 < 256 := by omega
            clear hs f1 f2 fk1 fk2 hi1 hi2
            go_wp2_with fail
            go_roundw
            case rel => exact ⟨k + 1, by omega, by go_num, HS⟩
            case measure => simp [intOf]; omega
          · have ih : ¬ (k : Int) < 64 := by omega
            obtain ⟨f1, f2⟩ := fk2 hh
            obtain ⟨i1, hi1⟩ : ∃ i1 : Nat, i1 = k - 64 := ⟨_, rfl⟩
            obtain ⟨i2, hi2⟩ : ∃ i2 : Nat, i2 = 127 - (k - 64) := ⟨_, rfl⟩
            rw [← hi1] at f1
            rw [← hi2] at f2
            have hs := (H.out.set i1 (f i1)).set i2 (f i2)
            rw [pf_set f _ (fun j => p k j || j == i1) _ _ (fun j _ => rfl), pf_set f _ (p (k + 1)) _ _ (fun j hj => by rw [HP.out, Bool.eq_iff_iff]; simp; omega), f1, f2] at hs
            have HS := Lib.hid hs
            have r1 := H.out.row.free i1
            have r2 := H.out.row.free i2
            have q1 := H.out.row.cell (i := i1) (by rw [pf_len]; omega)
            have q2 := H.out.row.cell (i := i2) (by rw [pf_len]; omega)
            rw [pf_get] at q1 q2
            have e1 : ((k : Int) - 64).toNat = i1 := by omega
            have e2 : (127 - ((k : Int) - 64)).toNat = i2 := by omega
            have l1 : i1 < 256 := by omega
            have l2 : i2 < 256 := by omega
            have o1 : 0 ≤ (k : Int) - 64 := by omega
            clear hs f1 f2 fk1 fk2 hi1 hi2
            go_wp2_with fail
            go_roundw
            case rel => exact ⟨k + 1, by omega, by go_num, HS⟩
            case measure => simp [intOf]; omega
        · obtain rfl : k = 128 := by omega
          go_wp2_with fail
          go_ret2
          exact ⟨_, rfl, hg, H.out.row, H.out.b⟩
end Go.Proofs.Ytngldpeapcbbpaa.Lap

/-
  Words: the document's rounding, and its holding to some bits; walks. No condition but those told.
-/
set_option linter.unusedVariables false
set_option linter.unusedSimpArgs false
namespace Go.Proofs.Ytngldpeapcbbpaa.Art
open Go.RowKit Go.Proofs.Ytngldpeapcbbpaa

theorem pw_pos (n : Nat) : (0 : Int) < 2 ^ n := Int.pow_pos (by omega)
theorem pw_succ (n : Nat) : (2 : Int) ^ (n + 1) = 2 * 2 ^ n := by rw [Int.pow_succ]; omega
theorem pw_le {a b : Nat} (h : a ≤ b) : (2 : Int) ^ a ≤ 2 ^ b := by
  induction h with
  | refl => exact Int.le_refl _
  | step _ ih => rw [pw_succ]; have := pw_pos a; omega
def rnd (n : Int) (by_ : Nat) : Int := if by_ = 0 then n else n / 2 ^ by_ + n / 2 ^ (by_ - 1) % 2
theorem tmod_lt (x p : Int) (hp : 0 < p) : -p < Int.tmod x p ∧ Int.tmod x p < p := by
  have h1 := Int.tmod_lt_of_pos x hp
  have h2 := Int.tmod_lt_of_pos (-x) hp
  rw [Int.neg_tmod] at h2
  omega
theorem euclid (n d : Int) (hd : 0 < d) : (Int.tmod n d < 0 → Int.tdiv n d - 1 = n / d ∧ Int.tmod n d + d = n % d) ∧ (¬ Int.tmod n d < 0 → Int.tdiv n d = n / d ∧ Int.tmod n d = n % d) := by
  have hb := tmod_lt n d hd
  have he := Int.mul_tdiv_add_tmod n d
  refine ⟨fun h => ?_, fun h => ?_⟩
  · have := (Int.ediv_emod_unique (a := n) (b := d) (r := Int.tmod n d + d) (q := Int.tdiv n d - 1) hd).2 ⟨by rw [Int.mul_sub, Int.mul_one]; omega, by omega, by omega⟩
    exact ⟨this.1.symm, this.2.symm⟩
  · have := (Int.ediv_emod_unique (a := n) (b := d) (r := Int.tmod n d) (q := Int.tdiv n d) hd).2 ⟨by omega, by omega, by omega⟩
    exact ⟨this.1.symm, this.2.symm⟩
theorem rnd_euclid (n : Int) (b : Nat) : rnd n b = if n % 2 ^ b ≥ 2 ^ b - n % 2 ^ b ∧ 1 < (2 : Int) ^ b then n / 2 ^ b + 1 else n / 2 ^ b := by
  unfold rnd
  by_cases hb : b = 0
  · subst hb
    rw [if_pos rfl, if_neg (fun h => absurd h.2 (by decide))]
    show n = n / 1
    rw [Int.ediv_one]
  · rw [if_neg hb]
    obtain ⟨c, rfl⟩ : ∃ c, b = c + 1 := ⟨b - 1, by omega⟩
    have hp := pw_pos c
    rw [Nat.add_sub_cancel, pw_succ]
    obtain ⟨p, hpp⟩ : ∃ p : Int, (2 : Int) ^ c = p := ⟨_, rfl⟩
    rw [hpp] at hp ⊢
    have e1 := Int.mul_ediv_add_emod n (2 * p)
    have r1 := Int.emod_nonneg n (show (2 * p : Int) ≠ 0 by omega)
    have r2 := Int.emod_lt_of_pos n (show (0 : Int) < 2 * p by omega)
    obtain ⟨q, hq⟩ : ∃ q, n / (2 * p) = q := ⟨_, rfl⟩
    obtain ⟨r, hr⟩ : ∃ r, n % (2 * p) = r := ⟨_, rfl⟩
    rw [hq, hr] at e1
    rw [hr] at r1 r2
    rw [hq, hr]
    by_cases h : p ≤ r
    · have := (Int.ediv_emod_unique (a := n) (b := p) (r := r - p) (q := 2 * q + 1) hp).2 ⟨by rw [Int.mul_add, Int.mul_one, ← Int.mul_assoc, Int.mul_comm p 2]; omega, by omega, by omega⟩
      rw [this.1, if_pos (by omega)]
      omega
    · have := (Int.ediv_emod_unique (a := n) (b := p) (r := r) (q := 2 * q) hp).2 ⟨by rw [← Int.mul_assoc, Int.mul_comm p 2]; omega, by omega, by omega⟩
      rw [this.1, if_neg (by omega)]
      omega
set_option maxRecDepth 100000 in
theorem rRound_calls (n : Int) (b : Nat) (h : -1152921504606846976 ≤ n ∧ n ≤ 1152921504606846976) (hb : b ≤ 60) (w : World) : Calls Try.prog 56 #[.int .i64 n, .int .i64 b] w fun e w' => e = .returned (.int .i64 (rnd n b)) ∧ w' = w := by
  have RE := Lib.hid (rnd_euclid n b)
  have EU := Lib.hid (euclid n (2 ^ b) (pw_pos b))
  have BN : Hid (2 ^ b ≤ (1152921504606846976 : Int)) := Lib.hid (by
    have h2 : (2 : Int) ^ b ≤ 2 ^ 60 := pw_le hb
    have e60 : (2 : Int) ^ 60 = 1152921504606846976 := by decide
    omega)
  have BT := Lib.hid (tmod_lt n (2 ^ b) (pw_pos b))
  have BQ : Hid (-1152921504606846976 ≤ n / 2 ^ b ∧ n / 2 ^ b ≤ 1152921504606846976) := Lib.hid (by
    have hp := pw_pos b
    constructor
    · rw [Int.le_ediv_iff_mul_le hp]
      have : (-1152921504606846976 : Int) * 2 ^ b ≤ -1152921504606846976 * 1 := Int.mul_le_mul_of_nonpos_left (by decide) (by omega)
      omega
    · have h3 : n / 2 ^ b < 1152921504606846977 := by
        rw [Int.ediv_lt_iff_lt_mul hp]
        have : (1152921504606846977 : Int) * 1 ≤ 1152921504606846977 * 2 ^ b := Int.mul_le_mul_of_nonneg_left (by omega) (by decide)
        omega
      omega)
  have b0 : decide ((b : Int) < 0) = false := decide_eq_false (by omega)
  have b62 : decide ((62 : Int) < (b : Int)) = false := decide_eq_false (by omega)
  go_enter Try.func56, Try.ntmps56
  go_wp2_with fail
  go_loopw [5, 6] (fun u v wr => ∃ k : Nat, k ≤ b ∧ u = .int .i64 (2 ^ k) ∧ v = .int .i64 (k : Int) ∧ wr = w) (fun _ v _ => b - (intOf v).toNat)
  case atStart => exact ⟨0, by omega, rfl, rfl, rfl⟩
  case round =>
    obtain ⟨k, hk, rfl, rfl, rfl⟩ := hrel
    by_cases hlt : k < b
    · have hs := Lib.hid (pw_succ k)
      have hle : Hid ((2 : Int) ^ (k + 1) ≤ 2 ^ b) := Lib.hid (pw_le (by omega))
      have hp := Lib.hid (pw_pos k)
      obtain ⟨g, hg⟩ : ∃ g : Int, (2 : Int) ^ k = g := ⟨_, rfl⟩
      rw [hg] at hs hp ⊢
      have w1 : IntKind.i64.wrap (g * 2) = g * 2 := wrapI64 (by have := hp.out; omega) (by have := hs.out; have := hle.out; have := BN.out; omega)
      have ik : (k : Int) < (b : Int) := by omega
      clear hg
      go_wp2_with fail
      go_roundw
      case rel => exact ⟨k + 1, by omega, by rw [hs.out, Int.mul_comm], by push_cast; rfl, trivial⟩
      case measure =>
        show b - ((k : Int) + 1).toNat < b - (k : Int).toNat
        omega
    · obtain rfl : k = b := by omega
      have PP := Lib.hid (pw_pos k)
      obtain ⟨g, hg⟩ : ∃ g : Int, (2 : Int) ^ k = g := ⟨_, rfl⟩
      rw [hg] at RE EU BN BT BQ PP ⊢
      clear hg
      have g0 : g ≠ 0 := by have := PP.out; omega
      obtain ⟨T, hT⟩ : ∃ T, Int.tdiv n g = T := ⟨_, rfl⟩
      obtain ⟨M, hM⟩ : ∃ M, Int.tmod n g = M := ⟨_, rfl⟩
      obtain ⟨q, hq⟩ : ∃ q, n / g = q := ⟨_, rfl⟩
      obtain ⟨r, hr⟩ : ∃ r, n % g = r := ⟨_, rfl⟩
      rw [hT, hM, hq, hr] at EU
      rw [hq, hr] at RE
      rw [hq] at BQ
      rw [hM] at BT
      clear hq hr
      have eu := EU.out
      have bt := BT.out
      have bq := BQ.out
      have bn := BN.out
      have pp := PP.out
      have zg : (g == 0) = false := by rw [beq_eq_false_iff_ne]; exact g0
      by_cases hm : M < 0
      · have e1 : T - 1 = q ∧ M + g = r := eu.1 hm
        have v1 : IntKind.i64.wrap T = T := wrapI64 (by omega) (by omega)
        have v2 : IntKind.i64.wrap M = M := wrapI64 (by omega) (by omega)
        have v3 : IntKind.i64.wrap (T - 1) = q := (wrapI64 (by omega) (by omega)).trans e1.1
        have v4 : IntKind.i64.wrap (M + g) = r := (wrapI64 (by omega) (by omega)).trans e1.2
        have v5 : IntKind.i64.wrap (g - r) = g - r := wrapI64 (by omega) (by omega)
        have v6 : IntKind.i64.wrap (q + 1) = q + 1 := wrapI64 (by omega) (by omega)
        clear eu bt bq e1
        by_cases h1 : g - r ≤ r
        · by_cases h2 : 1 < g
          · rw [if_pos ⟨h1, h2⟩] at RE
            go_wp2_with fail
            go_ret
            rw [RE.out]
            exact ⟨rfl, rfl⟩
          · rw [if_neg (fun h => h2 h.2)] at RE
            go_wp2_with fail
            go_ret
            rw [RE.out]
            exact ⟨rfl, rfl⟩
        · rw [if_neg (fun h => h1 h.1)] at RE
          go_wp2_with fail
          go_ret
          rw [RE.out]
          exact ⟨rfl, rfl⟩
      · have e1 : T = q ∧ M = r := eu.2 (by omega)
        obtain ⟨rfl, rfl⟩ := e1
        have v1 : IntKind.i64.wrap T = T := wrapI64 (by omega) (by omega)
        have v2 : IntKind.i64.wrap M = M := wrapI64 (by omega) (by omega)
        have v5 : IntKind.i64.wrap (g - M) = g - M := wrapI64 (by omega) (by omega)
        have v6 : IntKind.i64.wrap (T + 1) = T + 1 := wrapI64 (by omega) (by omega)
        clear eu bt bq
        by_cases h1 : g - M ≤ M
        · by_cases h2 : 1 < g
          · rw [if_pos ⟨h1, h2⟩] at RE
            go_wp2_with fail
            go_ret
            rw [RE.out]
            exact ⟨rfl, rfl⟩
          · rw [if_neg (fun h => h2 h.2)] at RE
            go_wp2_with fail
            go_ret
            rw [RE.out]
            exact ⟨rfl, rfl⟩
        · rw [if_neg (fun h => h1 h.1)] at RE
          go_wp2_with fail
          go_ret
          rw [RE.out]
          exact ⟨rfl, rfl⟩
theorem rnd_rdv4 (n : Int) : rnd n 4 = rdv 16 n := by unfold rnd rdv; rw [if_neg (by decide), show (2 : Int) ^ 4 = 16 from rfl, show (2 : Int) ^ (4 - 1) = 8 from rfl]; omega
theorem rnd_rdv24 (n : Int) : rnd n 24 = rdv 16777216 n := by unfold rnd rdv; rw [if_neg (by decide), show (2 : Int) ^ 24 = 16777216 from rfl, show (2 : Int) ^ (24 - 1) = 8388608 from rfl]; omega
theorem rnd_rdv27 (n : Int) : rnd n 27 = rdv 134217728 n := by unfold rnd rdv; rw [if_neg (by decide), show (2 : Int) ^ 27 = 134217728 from rfl, show (2 : Int) ^ (27 - 1) = 67108864 from rfl]; omega
theorem rnd_rdv28 (n : Int) : rnd n 28 = rdv 268435456 n := by unfold rnd rdv; rw [if_neg (by decide), show (2 : Int) ^ 28 = 268435456 from rfl, show (2 : Int) ^ (28 - 1) = 134217728 from rfl]; omega
theorem rLeast (wd : Nat) (h1 : 1 ≤ wd) (h2 : wd ≤ 60) (w : World) : Calls Try.prog 67 #[.int .i64 wd] w fun e w' => e = .returned (.int .i64 (-2 ^ (wd - 1))) ∧ w' = w := by
  go_enter Try.func67, Try.ntmps67
  go_wp2_with fail
  go_loop [3, 4] (fun u v => ∃ k : Nat, 1 ≤ k ∧ k ≤ wd ∧ v = .int .i64 (k : Int) ∧ u = .int .i64 (-2 ^ (k - 1))) (fun _ v => wd - (intOf v).toNat)
  case atStart => exact ⟨1, by omega, by omega, rfl, rfl⟩
  case round =>
    obtain ⟨k, hk0, hk, rfl, rfl⟩ := hrel
    by_cases hlt : k < wd
    · have hs := pw_succ (k - 1)
      have hle : (2 : Int) ^ (k - 1) ≤ 2 ^ 59 := pw_le (by omega)
      have hp := pw_pos (k - 1)
      rw [show k - 1 + 1 = k by omega] at hs
      have HS := Lib.hid hs
      have e59 : (2 : Int) ^ 59 = 576460752303423488 := by decide
      obtain ⟨g, hg⟩ : ∃ g : Int, (2 : Int) ^ (k - 1) = g := ⟨_, rfl⟩
      rw [hg] at HS hp hle ⊢
      rw [e59] at hle
      have ik : (k : Int) < (wd : Int) := by omega
      clear hg hs e59
      go_wp2_with fail
      go_round
      case rel => exact ⟨k + 1, by omega, by omega, by go_num, by rw [Nat.add_sub_cancel, HS.out]; congr 1; omega⟩
      case measure => simp [intOf]; omega
    · obtain rfl : k = wd := by omega
      go_wp2_with fail
      go_ret
      exact ⟨rfl, rfl⟩
theorem rSat16 (n : Int) (h0 : -9223372036854775808 ≤ n) (h1 : n < 9223372036854775808) (w : World) : Calls Try.prog 49 #[.int .i64 n, .int .i64 16] w fun e w' => e = .returned (.int .i64 (clampv (-32768) 32767 n)) ∧ w' = w := by
  have L := rLeast 16 (by decide) (by decide)
  rw [show (-2 ^ (16 - 1) : Int) = -32768 from rfl] at L
  have HL := Lib.hid L
  clear L
  unfold clampv
  by_cases c0 : n < -32768
  · rw [if_pos c0]
    go_enter Try.func49, Try.ntmps49
    go_wp2_with fail
    refine (HL.out _).mono ?_
    rintro e1 w1 ⟨rfl, he⟩
    subst w1
    go_wp2_with fail
    go_ret
    exact ⟨rfl, rfl⟩
  rw [if_neg c0]
  by_cases c1 : 32767 < n
  · rw [if_pos c1]
    go_enter Try.func49, Try.ntmps49
    go_wp2_with fail
    refine (HL.out _).mono ?_
    rintro e1 w1 ⟨rfl, he⟩
    subst w1
    go_wp2_with fail
    go_ret
    exact ⟨rfl, rfl⟩
  rw [if_neg c1]
  go_enter Try.func49, Try.ntmps49
  go_wp2_with fail
  refine (HL.out _).mono ?_
  rintro e1 w1 ⟨rfl, he⟩
  subst w1
  go_wp2_with fail
  go_ret
  exact ⟨rfl, rfl⟩
theorem rSat26 (n : Int) (h0 : -9223372036854775808 ≤ n) (h1 : n < 9223372036854775808) (w : World) : Calls Try.prog 49 #[.int .i64 n, .int .i64 26] w fun e w' => e = .returned (.int .i64 (clampv (-33554432) 33554431 n)) ∧ w' = w := by
  have L := rLeast 26 (by decide) (by decide)
  rw [show (-2 ^ (26 - 1) : Int) = -33554432 from rfl] at L
  have HL := Lib.hid L
  clear L
  unfold clampv
  by_cases c0 : n < -33554432
  · rw [if_pos c0]
    go_enter Try.func49, Try.ntmps49
    go_wp2_with fail
    refine (HL.out _).mono ?_
    rintro e1 w1 ⟨rfl, he⟩
    subst w1
    go_wp2_with fail
    go_ret
    exact ⟨rfl, rfl⟩
  rw [if_neg c0]
  by_cases c1 : 33554431 < n
  · rw [if_pos c1]
    go_enter Try.func49, Try.ntmps49
    go_wp2_with fail
    refine (HL.out _).mono ?_
    rintro e1 w1 ⟨rfl, he⟩
    subst w1
    go_wp2_with fail
    go_ret
    exact ⟨rfl, rfl⟩
  rw [if_neg c1]
  go_enter Try.func49, Try.ntmps49
  go_wp2_with fail
  refine (HL.out _).mono ?_
  rintro e1 w1 ⟨rfl, he⟩
  subst w1
  go_wp2_with fail
  go_ret
  exact ⟨rfl, rfl⟩
end Go.Proofs.Ytngldpeapcbbpaa.Art

/-
  The document's lapped transform; walks. No condition but those told.
-/
set_option linter.unusedVariables false
set_option linter.unusedSimpArgs false
namespace Go.Proofs.Ytngldpeapcbbpaa.Lap
open Go.RowKit Go.Proofs.Ytngldpeapcbbpaa Go.Proofs.Ytngldpeapcbbpaa.Bnd Go.Proofs.Ytngldpeapcbbpaa.Art Go.Proofs.YtngldpeapcbbpaaW.PrintWords

theorem cos_parts (m : Nat) (hm : m < 4096) (x : Int) (hx : x % 4096 = m) : cosv x = if m ≤ 1024 then qt m else if m ≤ 2048 then -(qt (2048 - m)) else if m < 3072 then -(qt (m - 2048)) else qt (4096 - m) := by
  unfold cosv
  rw [hx]
  show cv m = _
  unfold cv cb
  by_cases h1 : m ≤ 1024
  · rw [if_pos (show m ≤ 2048 by omega), if_pos h1, if_pos h1]
  by_cases h2 : m ≤ 2048
  · rw [if_pos h2, if_neg h1, if_neg h1, if_pos h2]
  by_cases h3 : m < 3072
  · rw [if_neg h2, if_neg (show ¬ 4096 - m ≤ 1024 by omega), if_neg h1, if_neg h2, if_pos h3, show 2048 - (4096 - m) = m - 2048 by omega]
  · rw [if_neg h2, if_pos (show 4096 - m ≤ 1024 by omega), if_neg h1, if_neg h2, if_neg h3]
theorem qt_at (i : Nat) : QT.getD i 0 = qt i := rfl
theorem qt_small (i : Nat) (h : i ≤ 1024) : 0 ≤ qt i ∧ qt i ≤ 16777216 := qt_bd ⟨i, by omega⟩
attribute [local irreducible] cosv wgt qt QT
set_option maxHeartbeats 1000000 in
set_option maxRecDepth 100000 in
theorem rCos {w : World} {A : Option Addr} {cap : Nat} (src : Src w .i64 (.slice A 1025 cap) QT) (x : Int) (h0 : 0 ≤ x) : Calls Try.prog 65 #[.slice A 1025 cap, .int .i64 x] w fun e w' => e = .returned (.int .i64 (cosv x)) ∧ w' = w := by
  obtain ⟨m, hm⟩ : ∃ m : Nat, x % 4096 = m := ⟨(x % 4096).toNat, by omega⟩
  have m1 : m < 4096 := by omega
  have ql : QT.length = 1025 := QT_length
  obtain ⟨ad, rfl, _⟩ := Src.at src (j := 0) (by omega)
  have HA : Hid (∀ j, j < 1025 → w.cell? (ad.add j) = some (.int .i64 (qt j))) := Lib.hid fun j hj => by
    obtain ⟨_, e, hc⟩ := Src.at src (j := j) (by omega)
    cases e
    rw [← qt_at]
    exact hc
  rw [cos_parts m m1 x hm]
  clear src ql
  by_cases h1 : m ≤ 1024
  · rw [if_pos h1]
    have c := HA.out m (by omega)
    go_enter Try.func65, Try.ntmps65
    go_wp2_with fail
    go_ret
    exact ⟨rfl, rfl⟩
  rw [if_neg h1]
  by_cases h2 : m ≤ 2048
  · rw [if_pos h2]
    have c := HA.out (2048 - m) (by omega)
    have q := qt_small (2048 - m) (by omega)
    obtain ⟨i, hi⟩ : ∃ i, 2048 - m = i := ⟨_, rfl⟩
    rw [hi] at c q ⊢
    obtain ⟨y, hy⟩ : ∃ y, qt i = y := ⟨_, rfl⟩
    rw [hy] at c q ⊢
    have e : (2048 - (m : Int)).toNat = i := by omega
    have l : i < 1025 := by omega
    clear hi hy
    go_enter Try.func65, Try.ntmps65
    go_wp2_with fail
    go_ret
    exact ⟨rfl, rfl⟩
  rw [if_neg h2]
  by_cases h3 : m < 3072
  · rw [if_pos h3]
    have c := HA.out (m - 2048) (by omega)
    have q := qt_small (m - 2048) (by omega)
    obtain ⟨i, hi⟩ : ∃ i, m - 2048 = i := ⟨_, rfl⟩
    rw [hi] at c q ⊢
    obtain ⟨y, hy⟩ : ∃ y, qt i = y := ⟨_, rfl⟩
    rw [hy] at c q ⊢
    have e : (2048 - (4096 - (m : Int))).toNat = i := by omega
    have l : i < 1025 := by omega
    clear hi hy
    go_enter Try.func65, Try.ntmps65
    go_wp2_with fail
    go_ret
    exact ⟨rfl, rfl⟩
  · rw [if_neg h3]
    have c := HA.out (4096 - m) (by omega)
    obtain ⟨i, hi⟩ : ∃ i, 4096 - m = i := ⟨_, rfl⟩
    rw [hi] at c ⊢
    have e : (4096 - (m : Int)).toNat = i := by omega
    have l : i < 1025 := by omega
    clear hi
    go_enter Try.func65, Try.ntmps65
    go_wp2_with fail
    go_ret
    exact ⟨rfl, rfl⟩
set_option maxHeartbeats 1000000 in
set_option maxRecDepth 100000 in
theorem rTurn512 {w : World} {A0 : Option Addr} {cap0 : Nat} (sq : Src w .i64 (.slice A0 1025 cap0) QT) {A : Option Addr} {cap : Nat} {ys : List Int} (src : Src w .i64 (.slice A 512 cap) ys) (hl : ys.length = 512) (bd : ∀ j, -33554432 ≤ ys.getD j 0 ∧ ys.getD j 0 ≤ 33554432) :
    Calls Try.prog 45 #[.slice A0 1025 cap0, .slice A 512 cap] w fun e w' => ∃ g, e = .returned (.slice (some ⟨g, 0, none⟩) 512 512) ∧ w.heap.size ≤ g ∧ RowI w' 2 .i64 g 512 (turnv 512 1 268435456 ys) ∧ Below w.heap.size w w' := by
  obtain ⟨ad, rfl, _⟩ := Src.at src (j := 0) (by omega)
  have HA : Hid (∀ wr, Hp w wr [] → ∀ j, j < 512 → wr.cell? (ad.add j) = some (.int .i64 (ys.getD j 0))) := Lib.hid fun wr H j hj => by
    obtain ⟨_, e, hc⟩ := Src.at (Src.below src H.b) (j := j) (by omega)
    cases e
    exact hc
  have SQ := Lib.hid sq
  have BD := Lib.hid bd
  clear sq src hl bd
  obtain ⟨f, hf⟩ : ∃ f : Nat → Int, f = fun k => rdv 268435456 (dot 1 (fun j => ys.getD j 0) 512 k) := ⟨_, rfl⟩
  have ef : turnv 512 1 268435456 ys = fillTo f 512 512 := by rw [hf, fillTo_all]; rfl
  rw [ef]
  have HF := Lib.hid hf
  clear hf ef
  have H0 : Hid (Hp w (w.alloc (.cells (madeCells #[.int .i64 0] 512) 2)) [rowA 2 .i64 w.heap.size 512 (fillTo f 512 0)]) := Lib.hid (by
    rw [fillTo_zero]
    exact (Hp.nil w).new_row 2 .i64 512 0 (by decide))
  have hm := mk64 512 (by decide)
  rw [show ((512 : Nat) : Int) = 512 from rfl] at hm
  go_enter Try.func45, Try.ntmps45
  go_wp2_with fail
  go_loopw [8] (fun u wr => ∃ k : Nat, k ≤ 512 ∧ u = .int .i64 (k : Int) ∧ Hid (Hp w wr [rowA 2 .i64 w.heap.size 512 (fillTo f 512 k)])) (fun u _ => 512 - (intOf u).toNat)
  case atStart => exact ⟨0, by omega, rfl, H0⟩
  case round =>
    clear H0
    obtain ⟨k, hk, rfl, H⟩ := hrel
    by_cases hlt : k < 512
    · have ik : (k : Int) < 512 := by omega
      have sb : ∀ j, j ≤ 512 → -288230376151711744 ≤ sumTo (fun j => ys.getD j 0 * wgt 1 k j) j ∧ sumTo (fun j => ys.getD j 0 * wgt 1 k j) j ≤ 288230376151711744 := fun j hj => by
        have := sum_bd (n := j) (f := fun j => ys.getD j 0 * wgt 1 k j) (B := 33554432 * 16777216) (fun i _ => mul_bd (by decide) (by decide) (BD.out i) (wgt_bd 1 k i))
        omega
      have SB := Lib.hid sb
      clear sb
      go_wp2_with fail
      go_loopw [9, 10] (fun s v w2 => ∃ (j : Nat) (S : Int), j ≤ 512 ∧ v = .int .i64 (j : Int) ∧ s = .int .i64 S ∧ Hid (S = sumTo (fun j => ys.getD j 0 * wgt 1 k j) j) ∧ (-288230376151711744 ≤ S ∧ S ≤ 288230376151711744) ∧ Hid (Hp w w2 [rowA 2 .i64 w.heap.size 512 (fillTo f 512 k)])) (fun _ v _ => 512 - (intOf v).toNat)
      case atStart => exact ⟨0, _, by omega, rfl, rfl, Lib.hid rfl, by omega, H⟩
      case round =>
        clear H
        obtain ⟨j, S, hj, rfl, rfl, HS, hS, H⟩ := hrel
        by_cases jlt : j < 512
        · have ij : (j : Int) < 512 := by omega
          have cy := HA.out wr (H.out.pk []) j jlt
          have SQ' : Hid (∀ q, Src (wr.drewN q) .i64 (.slice A0 1025 cap0) QT) := Lib.hid fun q => Src.below SQ.out (H.out.drewN q).b
          obtain ⟨x, hx⟩ : ∃ x : Int, x = (2 * (j : Int) + 1) * (2 * k + 1) := ⟨_, rfl⟩
          obtain ⟨B, hB⟩ : ∃ B : Int, B = x * (1 : Nat) := ⟨_, rfl⟩
          have xb : 0 ≤ x ∧ x ≤ 1050625 := by
            rw [hx]
            have h := Int.mul_le_mul (show 2 * (j : Int) + 1 ≤ 1025 by omega) (show 2 * (k : Int) + 1 ≤ 1025 by omega) (by omega) (by omega)
            exact ⟨Int.mul_nonneg (by omega) (by omega), by omega⟩
          have bb : 0 ≤ B ∧ B ≤ 5000000 := by rw [hB]; omega
          have hC := cos_bd B
          have hp := mul_bd (by decide) (by decide) (BD.out j) (cos_bd B)
          have sn : S + ys.getD j 0 * cosv B = sumTo (fun j => ys.getD j 0 * wgt 1 k j) (j + 1) := by
            rw [sum_succ, ← HS.out]
            unfold wgt
            rw [hB, hx]
          have sb2 := SB.out (j + 1) (by omega)
          rw [← sn] at sb2
          obtain ⟨y, hy⟩ : ∃ y, ys.getD j 0 = y := ⟨_, rfl⟩
          obtain ⟨C, hc⟩ : ∃ C, cosv B = C := ⟨_, rfl⟩
          rw [hy] at cy hp sn sb2
          rw [hc] at hp hC sn sb2
          obtain ⟨P, hP⟩ : ∃ P, y * C = P := ⟨_, rfl⟩
          rw [hP] at hp sn sb2
          have p1 : IntKind.i64.wrap (y * C) = P := by rw [wrapI64 (by rw [hP]; omega) (by rw [hP]; omega), hP]
          obtain ⟨S', hS'⟩ : ∃ S', S + P = S' := ⟨_, rfl⟩
          have p2 : IntKind.i64.wrap (S + P) = S' := by rw [wrapI64 (by omega) (by omega), hS']
          rw [hS'] at sn sb2
          have SN := Lib.hid sn
          have CQ : Hid (∀ q, Calls Try.prog 65 #[.slice A0 1025 cap0, .int .i64 B] (wr.drewN q) fun e w' => e = .returned (.int .i64 C) ∧ w' = wr.drewN q) := Lib.hid fun q => by
            rw [← hc]
            exact rCos (SQ'.out q) B bb.1
          have p3 : IntKind.i64.wrap (2 * (j : Int)) = 2 * j := wrapI64 (by omega) (by omega)
          have p4 : IntKind.i64.wrap (2 * (j : Int) + 1) = 2 * j + 1 := wrapI64 (by omega) (by omega)
          have p5 : IntKind.i64.wrap (2 * (k : Int)) = 2 * k := wrapI64 (by omega) (by omega)
          have p6 : IntKind.i64.wrap (2 * (k : Int) + 1) = 2 * k + 1 := wrapI64 (by omega) (by omega)
          have p7 : IntKind.i64.wrap ((2 * (j : Int) + 1) * (2 * k + 1)) = x := by rw [← hx, wrapI64 (by omega) (by omega)]
          have p8 : Int.tdiv 512 512 = 1 := by decide +kernel
          have p9 : IntKind.i64.wrap 1 = 1 := by decide +kernel
          have pa : IntKind.i64.wrap x = B := by rw [wrapI64 (by omega) (by omega), hB]; omega
          have H' := Lib.hid H.out
          clear hx hB hP hS' sn hp hy hc hC
          go_wp2_with fail
          go_quiet ((go_at_call 65; exact Calls.quiet_of_same (CQ.out _)))
          clear p1 p2 p3 p4 p5 p6 p7 p8 p9 pa
          go_wp2_with fail
          go_roundw
          case rel => exact ⟨j + 1, _, by omega, by go_num, rfl, SN, by omega, Lib.hid (H'.out.drewN _)⟩
          case measure => simp [intOf]; omega
        · obtain rfl : j = 512 := by omega
          have HH := H.out.set k (f k)
          rw [fillTo_set] at HH
          have H' := Lib.hid HH
          have er : rnd S 28 = f k := by rw [rnd_rdv28, HS.out, HF.out]; rfl
          have ER := Lib.hid er
          have fr := H.out.row.free k
          have fc := H.out.row.cell (i := k) (by rw [fillTo_len]; omega)
          rw [fillTo_at] at fc
          clear HH er H
          go_wp2_with fail
          refine (rRound_calls S 28 (by omega) (by decide) _).mono ?_
          rw [ER.out]
          rintro e1 w3 ⟨rfl, he⟩
          subst w3
          go_wp2_with fail
          go_roundw
          case rel => exact ⟨k + 1, by omega, by go_num, H'⟩
          case measure => simp [intOf]; omega
    · obtain rfl : k = 512 := by omega
      go_wp2_with fail
      go_ret
      exact ⟨_, rfl, Nat.le_refl _, H.out.row, H.out.b⟩
set_option maxHeartbeats 1000000 in
set_option maxRecDepth 100000 in
theorem rTurn128 {w : World} {A0 : Option Addr} {cap0 : Nat} (sq : Src w .i64 (.slice A0 1025 cap0) QT) {A : Option Addr} {cap : Nat} {ys : List Int} (src : Src w .i64 (.slice A 128 cap) ys) (hl : ys.length = 128) (bd : ∀ j, -33554432 ≤ ys.getD j 0 ∧ ys.getD j 0 ≤ 33554432) :
    Calls Try.prog 45 #[.slice A0 1025 cap0, .slice A 128 cap] w fun e w' => ∃ g, e = .returned (.slice (some ⟨g, 0, none⟩) 128 128) ∧ w.heap.size ≤ g ∧ RowI w' 2 .i64 g 128 (turnv 128 4 134217728 ys) ∧ Below w.heap.size w w' := by
  obtain ⟨ad, rfl, _⟩ := Src.at src (j := 0) (by omega)
  have HA : Hid (∀ wr, Hp w wr [] → ∀ j, j < 128 → wr.cell? (ad.add j) = some (.int .i64 (ys.getD j 0))) := Lib.hid fun wr H j hj => by
    obtain ⟨_, e, hc⟩ := Src.at (Src.below src H.b) (j := j) (by omega)
    cases e
    exact hc
  have SQ := Lib.hid sq
  have BD := Lib.hid bd
  clear sq src hl bd
  obtain ⟨f, hf⟩ : ∃ f : Nat → Int, f = fun k => rdv 134217728 (dot 4 (fun j => ys.getD j 0) 128 k) := ⟨_, rfl⟩
  have ef : turnv 128 4 134217728 ys = fillTo f 128 128 := by rw [hf, fillTo_all]; rfl
  rw [ef]
  have HF := Lib.hid hf
  clear hf ef
  have H0 : Hid (Hp w (w.alloc (.cells (madeCells #[.int .i64 0] 128) 2)) [rowA 2 .i64 w.heap.size 128 (fillTo f 128 0)]) := Lib.hid (by
    rw [fillTo_zero]
    exact (Hp.nil w).new_row 2 .i64 128 0 (by decide))
  have hm := mk64 128 (by decide)
  rw [show ((128 : Nat) : Int) = 128 from rfl] at hm
  go_enter Try.func45, Try.ntmps45
  go_wp2_with fail
  go_loopw [8] (fun u wr => ∃ k : Nat, k ≤ 128 ∧ u = .int .i64 (k : Int) ∧ Hid (Hp w wr [rowA 2 .i64 w.heap.size 128 (fillTo f 128 k)])) (fun u _ => 128 - (intOf u).toNat)
  case atStart => exact ⟨0, by omega, rfl, H0⟩
  case round =>
    clear H0
    obtain ⟨k, hk, rfl, H⟩ := hrel
    by_cases hlt : k < 128
    · have ik : (k : Int) < 128 := by omega
      have sb : ∀ j, j ≤ 128 → -288230376151711744 ≤ sumTo (fun j => ys.getD j 0 * wgt 4 k j) j ∧ sumTo (fun j => ys.getD j 0 * wgt 4 k j) j ≤ 288230376151711744 := fun j hj => by
        have := sum_bd (n := j) (f := fun j => ys.getD j 0 * wgt 4 k j) (B := 33554432 * 16777216) (fun i _ => mul_bd (by decide) (by decide) (BD.out i) (wgt_bd 4 k i))
        omega
      have SB := Lib.hid sb
      clear sb
      go_wp2_with fail
      go_loopw [9, 10] (fun s v w2 => ∃ (j : Nat) (S : Int), j ≤ 128 ∧ v = .int .i64 (j : Int) ∧ s = .int .i64 S ∧ Hid (S = sumTo (fun j => ys.getD j 0 * wgt 4 k j) j) ∧ (-288230376151711744 ≤ S ∧ S ≤ 288230376151711744) ∧ Hid (Hp w w2 [rowA 2 .i64 w.heap.size 128 (fillTo f 128 k)])) (fun _ v _ => 128 - (intOf v).toNat)
      case atStart => exact ⟨0, _, by omega, rfl, rfl, Lib.hid rfl, by omega, H⟩
      case round =>
        clear H
        obtain ⟨j, S, hj, rfl, rfl, HS, hS, H⟩ := hrel
        by_cases jlt : j < 128
        · have ij : (j : Int) < 128 := by omega
          have cy := HA.out wr (H.out.pk []) j jlt
          have SQ' : Hid (∀ q, Src (wr.drewN q) .i64 (.slice A0 1025 cap0) QT) := Lib.hid fun q => Src.below SQ.out (H.out.drewN q).b
          obtain ⟨x, hx⟩ : ∃ x : Int, x = (2 * (j : Int) + 1) * (2 * k + 1) := ⟨_, rfl⟩
          obtain ⟨B, hB⟩ : ∃ B : Int, B = x * (4 : Nat) := ⟨_, rfl⟩
          have xb : 0 ≤ x ∧ x ≤ 1050625 := by
            rw [hx]
            have h := Int.mul_le_mul (show 2 * (j : Int) + 1 ≤ 1025 by omega) (show 2 * (k : Int) + 1 ≤ 1025 by omega) (by omega) (by omega)
            exact ⟨Int.mul_nonneg (by omega) (by omega), by omega⟩
          have bb : 0 ≤ B ∧ B ≤ 5000000 := by rw [hB]; omega
          have hC := cos_bd B
          have hp := mul_bd (by decide) (by decide) (BD.out j) (cos_bd B)
          have sn : S + ys.getD j 0 * cosv B = sumTo (fun j => ys.getD j 0 * wgt 4 k j) (j + 1) := by
            rw [sum_succ, ← HS.out]
            unfold wgt
            rw [hB, hx]
          have sb2 := SB.out (j + 1) (by omega)
          rw [← sn] at sb2
          obtain ⟨y, hy⟩ : ∃ y, ys.getD j 0 = y := ⟨_, rfl⟩
          obtain ⟨C, hc⟩ : ∃ C, cosv B = C := ⟨_, rfl⟩
          rw [hy] at cy hp sn sb2
          rw [hc] at hp hC sn sb2
          obtain ⟨P, hP⟩ : ∃ P, y * C = P := ⟨_, rfl⟩
          rw [hP] at hp sn sb2
          have p1 : IntKind.i64.wrap (y * C) = P := by rw [wrapI64 (by rw [hP]; omega) (by rw [hP]; omega), hP]
          obtain ⟨S', hS'⟩ : ∃ S', S + P = S' := ⟨_, rfl⟩
          have p2 : IntKind.i64.wrap (S + P) = S' := by rw [wrapI64 (by omega) (by omega), hS']
          rw [hS'] at sn sb2
          have SN := Lib.hid sn
          have CQ : Hid (∀ q, Calls Try.prog 65 #[.slice A0 1025 cap0, .int .i64 B] (wr.drewN q) fun e w' => e = .returned (.int .i64 C) ∧ w' = wr.drewN q) := Lib.hid fun q => by
            rw [← hc]
            exact rCos (SQ'.out q) B bb.1
          have p3 : IntKind.i64.wrap (2 * (j : Int)) = 2 * j := wrapI64 (by omega) (by omega)
          have p4 : IntKind.i64.wrap (2 * (j : Int) + 1) = 2 * j + 1 := wrapI64 (by omega) (by omega)
          have p5 : IntKind.i64.wrap (2 * (k : Int)) = 2 * k := wrapI64 (by omega) (by omega)
          have p6 : IntKind.i64.wrap (2 * (k : Int) + 1) = 2 * k + 1 := wrapI64 (by omega) (by omega)
          have p7 : IntKind.i64.wrap ((2 * (j : Int) + 1) * (2 * k + 1)) = x := by rw [← hx, wrapI64 (by omega) (by omega)]
          have p8 : Int.tdiv 512 128 = 4 := by decide +kernel
          have p9 : IntKind.i64.wrap 4 = 4 := by decide +kernel
          have pa : IntKind.i64.wrap (x * 4) = B := by rw [wrapI64 (by omega) (by omega), hB]; omega
          have H' := Lib.hid H.out
          clear hx hB hP hS' sn hp hy hc hC
          go_wp2_with fail
          go_quiet ((go_at_call 65; exact Calls.quiet_of_same (CQ.out _)))
          clear p1 p2 p3 p4 p5 p6 p7 p8 p9 pa
          go_wp2_with fail
          go_roundw
          case rel => exact ⟨j + 1, _, by omega, by go_num, rfl, SN, by omega, Lib.hid (H'.out.drewN _)⟩
          case measure => simp [intOf]; omega
        · obtain rfl : j = 128 := by omega
          have HH := H.out.set k (f k)
          rw [fillTo_set] at HH
          have H' := Lib.hid HH
          have er : rnd S 27 = f k := by rw [rnd_rdv27, HS.out, HF.out]; rfl
          have ER := Lib.hid er
          have fr := H.out.row.free k
          have fc := H.out.row.cell (i := k) (by rw [fillTo_len]; omega)
          rw [fillTo_at] at fc
          clear HH er H
          go_wp2_with fail
          refine (rRound_calls S 27 (by omega) (by decide) _).mono ?_
          rw [ER.out]
          rintro e1 w3 ⟨rfl, he⟩
          subst w3
          go_wp2_with fail
          go_roundw
          case rel => exact ⟨k + 1, by omega, by go_num, H'⟩
          case measure => simp [intOf]; omega
    · obtain rfl : k = 128 := by omega
      go_wp2_with fail
      go_ret
      exact ⟨_, rfl, Nat.le_refl _, H.out.row, H.out.b⟩
end Go.Proofs.Ytngldpeapcbbpaa.Lap

/-
  The document's folding and unfolding; walks. No condition but those told.
-/
set_option linter.unusedVariables false
set_option linter.unusedSimpArgs false
namespace Go.Proofs.Ytngldpeapcbbpaa.Lap
open Go.RowKit Go.Proofs.Ytngldpeapcbbpaa Go.Proofs.Ytngldpeapcbbpaa.Bnd Go.Proofs.Ytngldpeapcbbpaa.Art Go.Proofs.YtngldpeapcbbpaaW.PrintWords

set_option maxHeartbeats 1000000 in
set_option maxRecDepth 100000 in
theorem rFold512 {w : World} {A : Option Addr} {cap : Nat} {x : List Int} (src : Src w .i64 (.slice A 1024 cap) x) (hl : x.length = 1024) (bd : ∀ j, -1048576 ≤ x.getD j 0 ∧ x.getD j 0 < 1048576) :
    Calls Try.prog 25 #[.slice A 1024 cap] w fun e w' => ∃ g, e = .returned (.slice (some ⟨g, 0, none⟩) 512 512) ∧ w.heap.size ≤ g ∧ RowI w' 2 .i64 g 512 (foldv 512 x) ∧ Below w.heap.size w w' := by
  obtain ⟨ad, rfl, _⟩ := Src.at src (j := 0) (by omega)
  have HA : Hid (∀ wr, Hp w wr [] → ∀ j, j < 1024 → wr.cell? (ad.add j) = some (.int .i64 (x.getD j 0))) := Lib.hid fun wr H j hj => by
    obtain ⟨_, e, hc⟩ := Src.at (Src.below src H.b) (j := j) (by omega)
    cases e
    exact hc
  have BD := Lib.hid bd
  clear src hl bd
  obtain ⟨f, hf⟩ : ∃ f : Nat → Int, f = foldAt 512 x := ⟨_, rfl⟩
  obtain ⟨p, hp⟩ : ∃ p : Nat → Nat → Bool, p = fun k j => decide (j < k) || decide (256 ≤ j ∧ j < 256 + k) := ⟨_, rfl⟩
  have ef : foldv 512 x = pf f (p 256) 512 := by rw [hf, pf_all _ _ _ (fun j hj => by rw [hp]; simp; omega)]; first | done | rfl
  rw [ef]
  have HF := Lib.hid hf
  have HP := Lib.hid hp
  clear hf ef hp
  have hm := mk64 512 (by decide)
  rw [show ((512 : Nat) : Int) = 512 from rfl] at hm
  have H0 : Hid (Hp w (w.alloc (.cells (madeCells #[.int .i64 0] 512) 2)) [rowA 2 .i64 w.heap.size 512 (pf f (p 0) 512)]) := Lib.hid (by
    rw [pf_none _ _ _ (fun j hj => by rw [HP.out]; simp; try omega)]
    exact (Hp.nil w).new_row 2 .i64 512 0 (by decide))
  go_enter Try.func25, Try.ntmps25
  go_wp2_with fail
  go_loopw [6] (fun u wr => ∃ k : Nat, k ≤ 256 ∧ u = .int .i64 (k : Int) ∧ Hid (Hp w wr [rowA 2 .i64 w.heap.size 512 (pf f (p k) 512)])) (fun u _ => 256 - (intOf u).toNat)
  case atStart => exact ⟨0, by omega, rfl, H0⟩
  case round =>
    clear H0
    obtain ⟨k, hk, rfl, H⟩ := hrel
    by_cases hlt : k < 256
    · have ik : (k : Int) < 256 := by omega
      obtain ⟨i1, hi1⟩ : ∃ i1 : Nat, i1 = 767 - k := ⟨_, rfl⟩
      obtain ⟨i2, hi2⟩ : ∃ i2 : Nat, i2 = 768 + k := ⟨_, rfl⟩
      have x1 := HA.out wr (H.out.pk []) i1 (by omega)
      have x2 := HA.out wr (H.out.pk []) i2 (by omega)
      have b1 := BD.out i1
      have b2 := BD.out i2
      have hv : f k = -x.getD i1 0 - x.getD i2 0 := by
        rw [HF.out]
        unfold foldAt
        rw [if_pos (by omega)]
        rw [hi1, hi2]
      obtain ⟨y1, h1⟩ : ∃ y, x.getD i1 0 = y := ⟨_, rfl⟩
      obtain ⟨y2, h2⟩ : ∃ y, x.getD i2 0 = y := ⟨_, rfl⟩
      rw [h1] at x1 b1 hv
      rw [h2] at x2 b2 hv
      clear h1 h2
      have HV := Lib.hid hv
      have fr := H.out.row.free k
      have fc := H.out.row.cell (i := k) (by rw [pf_len]; omega)
      rw [pf_get] at fc
      clear hv
      obtain ⟨v0, hv0⟩ : ∃ v0, (if p k k = true then f k else 0) = v0 := ⟨_, rfl⟩
      rw [hv0] at fc
      clear hv0
      have e1 : IntKind.i64.wrap (767 - (k : Int)) = (i1 : Int) := by rw [wrapI64 (by omega) (by omega)]; omega
      have e2 : IntKind.i64.wrap (768 + (k : Int)) = (i2 : Int) := by rw [wrapI64 (by omega) (by omega)]; omega
      have ea : IntKind.i64.wrap y1 = y1 := wrapI64 (by omega) (by omega)
      have eb : IntKind.i64.wrap y2 = y2 := wrapI64 (by omega) (by omega)
      have ik2 : (k : Int) < 512 := by omega
      have ik3 : k < 512 := by omega
      have e5 : IntKind.i64.wrap (-y1) = -y1 := wrapI64 (by omega) (by omega)
      have e6 : IntKind.i64.wrap (-y1 - y2) = -y1 - y2 := wrapI64 (by omega) (by omega)
      have e7 : IntKind.i64.wrap 768 = 768 := wrapI64 (by omega) (by omega)
      have e8 : IntKind.i64.wrap (768 - 1) = 767 := wrapI64 (by omega) (by omega)
      have e9 : IntKind.i64.wrap 767 = 767 := wrapI64 (by omega) (by omega)
      have g1 : i1 < 1024 := by omega
      have g2 : i2 < 1024 := by omega
      have g3 : (i1 : Int) < 1024 := by omega
      have g4 : (i2 : Int) < 1024 := by omega
      have HI := Lib.hid hi1
      have HI2 := Lib.hid hi2
      clear hi1 hi2
      go_upto_region 7 with fail
      go_cut [6] (fun u wc => u = .int .i64 (k : Int) ∧ Hid (Hp w wc [rowA 2 .i64 w.heap.size 512 (pf f (fun j => p k j || j == k) 512)]))
      case first =>
        go_still_tail 20, (by kernel_rfl)
        go_wp2
        go_meet
        have h1 := (H.out.drewN 1).set k (f k)
        rw [pf_set f _ _ _ _ (fun j _ => rfl), HV.out] at h1
        exact ⟨rfl, Lib.hid h1⟩
      case rest =>
        clear x1 x2 b1 b2 fr fc e1 e2 e5 e6 ea eb g1 g2 g3 g4 HI HI2 H HV
        obtain ⟨rfl, H⟩ := hcut
        obtain ⟨i3, hi3⟩ : ∃ i3 : Nat, i3 = 256 + k := ⟨_, rfl⟩
        obtain ⟨i4, hi4⟩ : ∃ i4 : Nat, i4 = 511 - k := ⟨_, rfl⟩
        have x1 := HA.out wc (H.out.pk []) k (by omega)
        have x2 := HA.out wc (H.out.pk []) i4 (by omega)
        have b1 := BD.out k
        have b2 := BD.out i4
        have hv : f i3 = x.getD k 0 - x.getD i4 0 := by
          rw [HF.out]
          unfold foldAt
          rw [if_neg (by omega), show i3 - 512 / 2 = k by omega, show 512 - 1 - k = i4 by omega]
        obtain ⟨y1, h1⟩ : ∃ y, x.getD k 0 = y := ⟨_, rfl⟩
        obtain ⟨y2, h2⟩ : ∃ y, x.getD i4 0 = y := ⟨_, rfl⟩
        rw [h1] at x1 b1 hv
        rw [h2] at x2 b2 hv
        clear h1 h2
        have fr := H.out.row.free i3
        have fc := H.out.row.cell (i := i3) (by rw [pf_len]; omega)
        rw [pf_get] at fc
        have hh : Hp w (wc.setCell ⟨w.heap.size, i3, none⟩ (.int .i64 (y1 - y2))) [rowA 2 .i64 w.heap.size 512 (pf f (p (k + 1)) 512)] := by
          have := H.out.set i3 (f i3)
          rw [pf_set f _ (p (k + 1)) _ _ (fun j hj => by rw [HP.out, Bool.eq_iff_iff]; simp; omega), hv] at this
          exact this
        have HH := Lib.hid hh
        clear hv hh
        obtain ⟨v0, hv0⟩ : ∃ v0, (if (p k i3 || i3 == k) = true then f i3 else 0) = v0 := ⟨_, rfl⟩
        rw [hv0] at fc
        clear hv0
        have e1 : IntKind.i64.wrap (511 - (k : Int)) = (i4 : Int) := by rw [wrapI64 (by omega) (by omega)]; omega
        have e2 : IntKind.i64.wrap (256 + (k : Int)) = (i3 : Int) := by rw [wrapI64 (by omega) (by omega)]; omega
        have ea : IntKind.i64.wrap y1 = y1 := wrapI64 (by omega) (by omega)
        have eb : IntKind.i64.wrap y2 = y2 := wrapI64 (by omega) (by omega)
        have e5 : IntKind.i64.wrap (y1 - y2) = y1 - y2 := wrapI64 (by omega) (by omega)
        have e7 : IntKind.i64.wrap (512 - 1) = 511 := wrapI64 (by omega) (by omega)
        have e8 : IntKind.i64.wrap 511 = 511 := wrapI64 (by omega) (by omega)
        have g1 : i3 < 512 := by omega
        have g2 : i4 < 1024 := by omega
        have g3 : (i3 : Int) < 512 := by omega
        have g4 : (i4 : Int) < 1024 := by omega
        have g5 : k < 1024 := by omega
        have g6 : (k : Int) < 1024 := by omega
        clear hi3 hi4 H
        go_wp2_with fail
        go_still_tail 17, (by kernel_rfl)
        clear e1 e2 ea eb e5 e7 e8
        go_wp2
        go_roundw
        case rel => exact ⟨k + 1, by omega, by go_num, Lib.hid (HH.out.drewN 1)⟩
        case measure => simp [intOf]; omega
    · obtain rfl : k = 256 := by omega
      go_wp2_with fail
      go_ret
      exact ⟨_, rfl, Nat.le_refl _, H.out.row, H.out.b⟩
set_option maxHeartbeats 1000000 in
set_option maxRecDepth 100000 in
theorem rUnfold512 {w : World} {A : Option Addr} {cap : Nat} {T : List Int} (src : Src w .i64 (.slice A 512 cap) T) (hl : T.length = 512) (tb : ∀ j, -4611686018427387904 ≤ T.getD j 0 ∧ T.getD j 0 ≤ 4611686018427387904) :
    Calls Try.prog 24 #[.slice A 512 cap] w fun e w' => ∃ g, e = .returned (.slice (some ⟨g, 0, none⟩) 1024 1024) ∧ w.heap.size ≤ g ∧ RowI w' 2 .i64 g 1024 (unfv 512 T) ∧ Below w.heap.size w w' := by
  obtain ⟨ad, rfl, _⟩ := Src.at src (j := 0) (by omega)
  have HA : Hid (∀ wr, Hp w wr [] → ∀ j, j < 512 → wr.cell? (ad.add j) = some (.int .i64 (T.getD j 0))) := Lib.hid fun wr H j hj => by
    obtain ⟨_, e, hc⟩ := Src.at (Src.below src H.b) (j := j) (by omega)
    cases e
    exact hc
  have TB := Lib.hid tb
  clear src hl tb
  have hm := mk64 1024 (by decide)
  rw [show ((1024 : Nat) : Int) = 1024 from rfl] at hm
  obtain ⟨f, hf⟩ : ∃ f : Nat → Int, f = unfAt 512 T := ⟨_, rfl⟩
  obtain ⟨p, hp⟩ : ∃ p : Nat → Nat → Bool, p = fun k j => decide (j < k) || decide (512 ≤ j + k ∧ j < 512) || decide (768 ≤ j + k ∧ j < 768 + k) := ⟨_, rfl⟩
  have ef : unfv 512 T = pf f (p 256) 1024 := by
    rw [pf_all _ _ _ (fun j hj => by rw [hp]; simp; omega)]
    unfold unfv
    rw [hf]
  rw [ef]
  have HF := Lib.hid hf
  have HP := Lib.hid hp
  clear hf ef hp
  have H0 : Hid (Hp w (w.alloc (.cells (madeCells #[.int .i64 0] 1024) 2)) [rowA 2 .i64 w.heap.size 1024 (pf f (p 0) 1024)]) := Lib.hid (by
    rw [pf_none _ _ _ (fun j hj => by rw [HP.out]; simp; try omega)]
    exact (Hp.nil w).new_row 2 .i64 1024 0 (by decide))
  go_enter Try.func24, Try.ntmps24
  go_wp2_with fail
  go_loopw [6] (fun u wr => ∃ k : Nat, k ≤ 256 ∧ u = .int .i64 (k : Int) ∧ Hid (Hp w wr [rowA 2 .i64 w.heap.size 1024 (pf f (p k) 1024)])) (fun u _ => 256 - (intOf u).toNat)
  case atStart => exact ⟨0, by omega, rfl, H0⟩
  case round =>
    clear H0
    obtain ⟨k, hk, rfl, H⟩ := hrel
    by_cases hlt : k < 256
    · have ik : (k : Int) < 256 := by omega
      obtain ⟨i0, hi0⟩ : ∃ i0 : Nat, i0 = 256 + k := ⟨_, rfl⟩
      obtain ⟨i2, hi2⟩ : ∃ i2 : Nat, i2 = 511 - k := ⟨_, rfl⟩
      obtain ⟨i3, hi3⟩ : ∃ i3 : Nat, i3 = 767 - k := ⟨_, rfl⟩
      obtain ⟨i4, hi4⟩ : ∃ i4 : Nat, i4 = 768 + k := ⟨_, rfl⟩
      have x1 := HA.out wr (H.out.pk []) i0 (by omega)
      have x2 := HA.out wr (H.out.pk []) k (by omega)
      have b1 := TB.out i0
      have b2 := TB.out k
      have f1 : f k = T.getD i0 0 := by rw [HF.out]; unfold unfAt; rw [if_pos (by omega)]; congr 1; omega
      have f2 : f i2 = -T.getD i0 0 := by rw [HF.out]; unfold unfAt; rw [if_neg (by omega), if_pos (by omega)]; congr 2; omega
      have f3 : f i3 = -T.getD k 0 := by rw [HF.out]; unfold unfAt; rw [if_neg (by omega), if_neg (by omega), if_pos (by omega)]; congr 2; omega
      have f4 : f i4 = -T.getD k 0 := by rw [HF.out]; unfold unfAt; rw [if_neg (by omega), if_neg (by omega), if_neg (by omega)]; congr 2; omega
      obtain ⟨y1, hq1⟩ : ∃ y, T.getD i0 0 = y := ⟨_, rfl⟩
      obtain ⟨y2, hq2⟩ : ∃ y, T.getD k 0 = y := ⟨_, rfl⟩
      rw [hq1] at x1 b1 f1 f2
      rw [hq2] at x2 b2 f3 f4
      have hs := (((H.out.set k (f k)).set i2 (f i2)).set i3 (f i3)).set i4 (f i4)
      rw [pf_set f _ (fun j => p k j || j == k) _ _ (fun j _ => rfl), pf_set f _ (fun j => (p k j || j == k) || j == i2) _ _ (fun j _ => rfl), pf_set f _ (fun j => ((p k j || j == k) || j == i2) || j == i3) _ _ (fun j _ => rfl), pf_set f _ (p (k + 1)) _ _ (fun j hj => by rw [HP.out, Bool.eq_iff_iff]; simp; omega), f1, f2, f3, f4] at hs
      have HS := Lib.hid hs
      have r1 := H.out.row.free k
      have r2 := H.out.row.free i2
      have r3 := H.out.row.free i3
      have r4 := H.out.row.free i4
      have q1 := H.out.row.cell (i := k) (by rw [pf_len]; omega)
      have q2 := H.out.row.cell (i := i2) (by rw [pf_len]; omega)
      have q3 := H.out.row.cell (i := i3) (by rw [pf_len]; omega)
      have q4 := H.out.row.cell (i := i4) (by rw [pf_len]; omega)
      rw [pf_get] at q1 q2 q3 q4
      have e0 : (256 + (k : Int)).toNat = i0 := by omega
      have e2 : (511 - (k : Int)).toNat = i2 := by omega
      have e3 : (767 - (k : Int)).toNat = i3 := by omega
      have e4 : (768 + (k : Int)).toNat = i4 := by omega
      have l0 : i0 < 512 := by omega
      have l2 : i2 < 1024 := by omega
      have l3 : i3 < 1024 := by omega
      have l4 : i4 < 1024 := by omega
      have l1 : k < 512 := by omega
      have x1' := HA.out _ ((H.out.set k y1).pk []) i0 l0
      have x2' := HA.out _ (((H.out.set k y1).set i2 (-y1)).pk []) k l1
      have x2'' := HA.out _ ((((H.out.set k y1).set i2 (-y1)).set i3 (-y2)).pk []) k l1
      rw [hq1] at x1'
      rw [hq2] at x2' x2''
      clear hs f1 f2 f3 f4 hi0 hi2 hi3 hi4 H hq1 hq2
      go_wp2_with fail
      go_roundw
      case rel => exact ⟨k + 1, by omega, by go_num, HS⟩
      case measure => simp [intOf]; omega
    · obtain rfl : k = 256 := by omega
      go_wp2_with fail
      go_ret
      exact ⟨_, rfl, Nat.le_refl _, H.out.row, H.out.b⟩
set_option maxHeartbeats 1000000 in
set_option maxRecDepth 100000 in
theorem rFold128 {w : World} {A : Option Addr} {cap : Nat} {x : List Int} (src : Src w .i64 (.slice A 256 cap) x) (hl : x.length = 256) (bd : ∀ j, -1048576 ≤ x.getD j 0 ∧ x.getD j 0 < 1048576) :
    Calls Try.prog 25 #[.slice A 256 cap] w fun e w' => ∃ g, e = .returned (.slice (some ⟨g, 0, none⟩) 128 128) ∧ w.heap.size ≤ g ∧ RowI w' 2 .i64 g 128 (foldv 128 x) ∧ Below w.heap.size w w' := by
  obtain ⟨ad, rfl, _⟩ := Src.at src (j := 0) (by omega)
  have HA : Hid (∀ wr, Hp w wr [] → ∀ j, j < 256 → wr.cell? (ad.add j) = some (.int .i64 (x.getD j 0))) := Lib.hid fun wr H j hj => by
    obtain ⟨_, e, hc⟩ := Src.at (Src.below src H.b) (j := j) (by omega)
    cases e
    exact hc
  have BD := Lib.hid bd
  clear src hl bd
  obtain ⟨f, hf⟩ : ∃ f : Nat → Int, f = foldAt 128 x := ⟨_, rfl⟩
  obtain ⟨p, hp⟩ : ∃ p : Nat → Nat → Bool, p = fun k j => decide (j < k) || decide (64 ≤ j ∧ j < 64 + k) := ⟨_, rfl⟩
  have ef : foldv 128 x = pf f (p 64) 128 := by rw [hf, pf_all _ _ _ (fun j hj => by rw [hp]; simp; omega)]; first | done | rfl
  rw [ef]
  have HF := Lib.hid hf
  have HP := Lib.hid hp
  clear hf ef hp
  have hm := mk64 128 (by decide)
  rw [show ((128 : Nat) : Int) = 128 from rfl] at hm
  have H0 : Hid (Hp w (w.alloc (.cells (madeCells #[.int .i64 0] 128) 2)) [rowA 2 .i64 w.heap.size 128 (pf f (p 0) 128)]) := Lib.hid (by
    rw [pf_none _ _ _ (fun j hj => by rw [HP.out]; simp; try omega)]
    exact (Hp.nil w).new_row 2 .i64 128 0 (by decide))
  go_enter Try.func25, Try.ntmps25
  go_wp2_with fail
  go_loopw [6] (fun u wr => ∃ k : Nat, k ≤ 64 ∧ u = .int .i64 (k : Int) ∧ Hid (Hp w wr [rowA 2 .i64 w.heap.size 128 (pf f (p k) 128)])) (fun u _ => 64 - (intOf u).toNat)
  case atStart => exact ⟨0, by omega, rfl, H0⟩
  case round =>
    clear H0
    obtain ⟨k, hk, rfl, H⟩ := hrel
    by_cases hlt : k < 64
    · have ik : (k : Int) < 64 := by omega
      obtain ⟨i1, hi1⟩ : ∃ i1 : Nat, i1 = 191 - k := ⟨_, rfl⟩
      obtain ⟨i2, hi2⟩ : ∃ i2 : Nat, i2 = 192 + k := ⟨_, rfl⟩
      have x1 := HA.out wr (H.out.pk []) i1 (by omega)
      have x2 := HA.out wr (H.out.pk []) i2 (by omega)
      have b1 := BD.out i1
      have b2 := BD.out i2
      have hv : f k = -x.getD i1 0 - x.getD i2 0 := by
        rw [HF.out]
        unfold foldAt
        rw [if_pos (by omega)]
        rw [hi1, hi2]
      obtain ⟨y1, h1⟩ : ∃ y, x.getD i1 0 = y := ⟨_, rfl⟩
      obtain ⟨y2, h2⟩ : ∃ y, x.getD i2 0 = y := ⟨_, rfl⟩
      rw [h1] at x1 b1 hv
      rw [h2] at x2 b2 hv
      clear h1 h2
      have HV := Lib.hid hv
      have fr := H.out.row.free k
      have fc := H.out.row.cell (i := k) (by rw [pf_len]; omega)
      rw [pf_get] at fc
      clear hv
      obtain ⟨v0, hv0⟩ : ∃ v0, (if p k k = true then f k else 0) = v0 := ⟨_, rfl⟩
      rw [hv0] at fc
      clear hv0
      have e1 : IntKind.i64.wrap (191 - (k : Int)) = (i1 : Int) := by rw [wrapI64 (by omega) (by omega)]; omega
      have e2 : IntKind.i64.wrap (192 + (k : Int)) = (i2 : Int) := by rw [wrapI64 (by omega) (by omega)]; omega
      have ea : IntKind.i64.wrap y1 = y1 := wrapI64 (by omega) (by omega)
      have eb : IntKind.i64.wrap y2 = y2 := wrapI64 (by omega) (by omega)
      have ik2 : (k : Int) < 128 := by omega
      have ik3 : k < 128 := by omega
      have e5 : IntKind.i64.wrap (-y1) = -y1 := wrapI64 (by omega) (by omega)
      have e6 : IntKind.i64.wrap (-y1 - y2) = -y1 - y2 := wrapI64 (by omega) (by omega)
      have e7 : IntKind.i64.wrap 192 = 192 := wrapI64 (by omega) (by omega)
      have e8 : IntKind.i64.wrap (192 - 1) = 191 := wrapI64 (by omega) (by omega)
      have e9 : IntKind.i64.wrap 191 = 191 := wrapI64 (by omega) (by omega)
      have g1 : i1 < 256 := by omega
      have g2 : i2 < 256 := by omega
      have g3 : (i1 : Int) < 256 := by omega
      have g4 : (i2 : Int) < 256 := by omega
      have HI := Lib.hid hi1
      have HI2 := Lib.hid hi2
      clear hi1 hi2
      go_upto_region 7 with fail
      go_cut [6] (fun u wc => u = .int .i64 (k : Int) ∧ Hid (Hp w wc [rowA 2 .i64 w.heap.size 128 (pf f (fun j => p k j || j == k) 128)]))
      case first =>
        go_still_tail 20, (by kernel_rfl)
        go_wp2
        go_meet
        have h1 := (H.out.drewN 1).set k (f k)
        rw [pf_set f _ _ _ _ (fun j _ => rfl), HV.out] at h1
        exact ⟨rfl, Lib.hid h1⟩
      case rest =>
        clear x1 x2 b1 b2 fr fc e1 e2 e5 e6 ea eb g1 g2 g3 g4 HI HI2 H HV
        obtain ⟨rfl, H⟩ := hcut
        obtain ⟨i3, hi3⟩ : ∃ i3 : Nat, i3 = 64 + k := ⟨_, rfl⟩
        obtain ⟨i4, hi4⟩ : ∃ i4 : Nat, i4 = 127 - k := ⟨_, rfl⟩
        have x1 := HA.out wc (H.out.pk []) k (by omega)
        have x2 := HA.out wc (H.out.pk []) i4 (by omega)
        have b1 := BD.out k
        have b2 := BD.out i4
        have hv : f i3 = x.getD k 0 - x.getD i4 0 := by
          rw [HF.out]
          unfold foldAt
          rw [if_neg (by omega), show i3 - 128 / 2 = k by omega, show 128 - 1 - k = i4 by omega]
        obtain ⟨y1, h1⟩ : ∃ y, x.getD k 0 = y := ⟨_, rfl⟩
        obtain ⟨y2, h2⟩ : ∃ y, x.getD i4 0 = y := ⟨_, rfl⟩
        rw [h1] at x1 b1 hv
        rw [h2] at x2 b2 hv
        clear h1 h2
        have fr := H.out.row.free i3
        have fc := H.out.row.cell (i := i3) (by rw [pf_len]; omega)
        rw [pf_get] at fc
        have hh : Hp w (wc.setCell ⟨w.heap.size, i3, none⟩ (.int .i64 (y1 - y2))) [rowA 2 .i64 w.heap.size 128 (pf f (p (k + 1)) 128)] := by
          have := H.out.set i3 (f i3)
          rw [pf_set f _ (p (k + 1)) _ _ (fun j hj => by rw [HP.out, Bool.eq_iff_iff]; simp; omega), hv] at this
          exact this
        have HH := Lib.hid hh
        clear hv hh
        obtain ⟨v0, hv0⟩ : ∃ v0, (if (p k i3 || i3 == k) = true then f i3 else 0) = v0 := ⟨_, rfl⟩
        rw [hv0] at fc
        clear hv0
        have e1 : IntKind.i64.wrap (127 - (k : Int)) = (i4 : Int) := by rw [wrapI64 (by omega) (by omega)]; omega
        have e2 : IntKind.i64.wrap (64 + (k : Int)) = (i3 : Int) := by rw [wrapI64 (by omega) (by omega)]; omega
        have ea : IntKind.i64.wrap y1 = y1 := wrapI64 (by omega) (by omega)
        have eb : IntKind.i64.wrap y2 = y2 := wrapI64 (by omega) (by omega)
        have e5 : IntKind.i64.wrap (y1 - y2) = y1 - y2 := wrapI64 (by omega) (by omega)
        have e7 : IntKind.i64.wrap (128 - 1) = 127 := wrapI64 (by omega) (by omega)
        have e8 : IntKind.i64.wrap 127 = 127 := wrapI64 (by omega) (by omega)
        have g1 : i3 < 128 := by omega
        have g2 : i4 < 256 := by omega
        have g3 : (i3 : Int) < 128 := by omega
        have g4 : (i4 : Int) < 256 := by omega
        have g5 : k < 256 := by omega
        have g6 : (k : Int) < 256 := by omega
        clear hi3 hi4 H
        go_wp2_with fail
        go_still_tail 17, (by kernel_rfl)
        clear e1 e2 ea eb e5 e7 e8
        go_wp2
        go_roundw
        case rel => exact ⟨k + 1, by omega, by go_num, Lib.hid (HH.out.drewN 1)⟩
        case measure => simp [intOf]; omega
    · obtain rfl : k = 64 := by omega
      go_wp2_with fail
      go_ret
      exact ⟨_, rfl, Nat.le_refl _, H.out.row, H.out.b⟩
set_option maxHeartbeats 1000000 in
set_option maxRecDepth 100000 in
theorem rUnfold128 {w : World} {A : Option Addr} {cap : Nat} {T : List Int} (src : Src w .i64 (.slice A 128 cap) T) (hl : T.length = 128) (tb : ∀ j, -4611686018427387904 ≤ T.getD j 0 ∧ T.getD j 0 ≤ 4611686018427387904) :
    Calls Try.prog 24 #[.slice A 128 cap] w fun e w' => ∃ g, e = .returned (.slice (some ⟨g, 0, none⟩) 256 256) ∧ w.heap.size ≤ g ∧ RowI w' 2 .i64 g 256 (unfv 128 T) ∧ Below w.heap.size w w' := by
  obtain ⟨ad, rfl, _⟩ := Src.at src (j := 0) (by omega)
  have HA : Hid (∀ wr, Hp w wr [] → ∀ j, j < 128 → wr.cell? (ad.add j) = some (.int .i64 (T.getD j 0))) := Lib.hid fun wr H j hj => by
    obtain ⟨_, e, hc⟩ := Src.at (Src.below src H.b) (j := j) (by omega)
    cases e
    exact hc
  have TB := Lib.hid tb
  clear src hl tb
  have hm := mk64 256 (by decide)
  rw [show ((256 : Nat) : Int) = 256 from rfl] at hm
  obtain ⟨f, hf⟩ : ∃ f : Nat → Int, f = unfAt 128 T := ⟨_, rfl⟩
  obtain ⟨p, hp⟩ : ∃ p : Nat → Nat → Bool, p = fun k j => decide (j < k) || decide (128 ≤ j + k ∧ j < 128) || decide (192 ≤ j + k ∧ j < 192 + k) := ⟨_, rfl⟩
  have ef : unfv 128 T = pf f (p 64) 256 := by
    rw [pf_all _ _ _ (fun j hj => by rw [hp]; simp; omega)]
    unfold unfv
    rw [hf]
  rw [ef]
  have HF := Lib.hid hf
  have HP := Lib.hid hp
  clear hf ef hp
  have H0 : Hid (Hp w (w.alloc (.cells (madeCells #[.int .i64 0] 256) 2)) [rowA 2 .i64 w.heap.size 256 (pf f (p 0) 256)]) := Lib.hid (by
    rw [pf_none _ _ _ (fun j hj => by rw [HP.out]; simp; try omega)]
    exact (Hp.nil w).new_row 2 .i64 256 0 (by decide))
  go_enter Try.func24, Try.ntmps24
  go_wp2_with fail
  go_loopw [6] (fun u wr => ∃ k : Nat, k ≤ 64 ∧ u = .int .i64 (k : Int) ∧ Hid (Hp w wr [rowA 2 .i64 w.heap.size 256 (pf f (p k) 256)])) (fun u _ => 64 - (intOf u).toNat)
  case atStart => exact ⟨0, by omega, rfl, H0⟩
  case round =>
    clear H0
    obtain ⟨k, hk, rfl, H⟩ := hrel
    by_cases hlt : k < 64
    · have ik : (k : Int) < 64 := by omega
      obtain ⟨i0, hi0⟩ : ∃ i0 : Nat, i0 = 64 + k := ⟨_, rfl⟩
      obtain ⟨i2, hi2⟩ : ∃ i2 : Nat, i2 = 127 - k := ⟨_, rfl⟩
      obtain ⟨i3, hi3⟩ : ∃ i3 : Nat, i3 = 191 - k := ⟨_, rfl⟩
      obtain ⟨i4, hi4⟩ : ∃ i4 : Nat, i4 = 192 + k := ⟨_, rfl⟩
      have x1 := HA.out wr (H.out.pk []) i0 (by omega)
      have x2 := HA.out wr (H.out.pk []) k (by omega)
      have b1 := TB.out i0
      have b2 := TB.out k
      have f1 : f k = T.getD i0 0 := by rw [HF.out]; unfold unfAt; rw [if_pos (by omega)]; congr 1; omega
      have f2 : f i2 = -T.getD i0 0 := by rw [HF.out]; unfold unfAt; rw [if_neg (by omega), if_pos (by omega)]; congr 2; omega
      have f3 : f i3 = -T.getD k 0 := by rw [HF.out]; unfold unfAt; rw [if_neg (by omega), if_neg (by omega), if_pos (by omega)]; congr 2; omega
      have f4 : f i4 = -T.getD k 0 := by rw [HF.out]; unfold unfAt; rw [if_neg (by omega), if_neg (by omega), if_neg (by omega)]; congr 2; omega
      obtain ⟨y1, hq1⟩ : ∃ y, T.getD i0 0 = y := ⟨_, rfl⟩
      obtain ⟨y2, hq2⟩ : ∃ y, T.getD k 0 = y := ⟨_, rfl⟩
      rw [hq1] at x1 b1 f1 f2
      rw [hq2] at x2 b2 f3 f4
      have hs := (((H.out.set k (f k)).set i2 (f i2)).set i3 (f i3)).set i4 (f i4)
      rw [pf_set f _ (fun j => p k j || j == k) _ _ (fun j _ => rfl), pf_set f _ (fun j => (p k j || j == k) || j == i2) _ _ (fun j _ => rfl), pf_set f _ (fun j => ((p k j || j == k) || j == i2) || j == i3) _ _ (fun j _ => rfl), pf_set f _ (p (k + 1)) _ _ (fun j hj => by rw [HP.out, Bool.eq_iff_iff]; simp; omega), f1, f2, f3, f4] at hs
      have HS := Lib.hid hs
      have r1 := H.out.row.free k
      have r2 := H.out.row.free i2
      have r3 := H.out.row.free i3
      have r4 := H.out.row.free i4
      have q1 := H.out.row.cell (i := k) (by rw [pf_len]; omega)
      have q2 := H.out.row.cell (i := i2) (by rw [pf_len]; omega)
      have q3 := H.out.row.cell (i := i3) (by rw [pf_len]; omega)
      have q4 := H.out.row.cell (i := i4) (by rw [pf_len]; omega)
      rw [pf_get] at q1 q2 q3 q4
      have e0 : (64 + (k : Int)).toNat = i0 := by omega
      have e2 : (127 - (k : Int)).toNat = i2 := by omega
      have e3 : (191 - (k : Int)).toNat = i3 := by omega
      have e4 : (192 + (k : Int)).toNat = i4 := by omega
      have l0 : i0 < 128 := by omega
      have l2 : i2 < 256 := by omega
      have l3 : i3 < 256 := by omega
      have l4 : i4 < 256 := by omega
      have l1 : k < 128 := by omega
      have x1' := HA.out _ ((H.out.set k y1).pk []) i0 l0
      have x2' := HA.out _ (((H.out.set k y1).set i2 (-y1)).pk []) k l1
      have x2'' := HA.out _ ((((H.out.set k y1).set i2 (-y1)).set i3 (-y2)).pk []) k l1
      rw [hq1] at x1'
      rw [hq2] at x2' x2''
      clear hs f1 f2 f3 f4 hi0 hi2 hi3 hi4 H hq1 hq2
      go_wp2_with fail
      go_roundw
      case rel => exact ⟨k + 1, by omega, by go_num, HS⟩
      case measure => simp [intOf]; omega
    · obtain rfl : k = 64 := by omega
      go_wp2_with fail
      go_ret
      exact ⟨_, rfl, Nat.le_refl _, H.out.row, H.out.b⟩
end Go.Proofs.Ytngldpeapcbbpaa.Lap

/-
  The document's forward and back; walks. No condition but those told.
-/
set_option linter.unusedVariables false
set_option linter.unusedSimpArgs false
namespace Go.Proofs.Ytngldpeapcbbpaa.Lap
open Go.RowKit Go.Proofs.Ytngldpeapcbbpaa Go.Proofs.Ytngldpeapcbbpaa.Bnd Go.Proofs.Ytngldpeapcbbpaa.Art Go.Proofs.YtngldpeapcbbpaaW.PrintWords

set_option maxHeartbeats 1000000 in
set_option maxRecDepth 100000 in
theorem rBack512 {w : World} {A0 : Option Addr} {cap0 : Nat} (sq : Src w .i64 (.slice A0 1025 cap0) QT) {A : Option Addr} {cap : Nat} {x : List Int} (src : Src w .i64 (.slice A 512 cap) x) (hl : x.length = 512) (bd : ∀ j, -33554432 ≤ x.getD j 0 ∧ x.getD j 0 < 33554432) :
    Calls Try.prog 20 #[.slice A0 1025 cap0, .slice A 512 cap] w fun e w' => ∃ g, e = .returned (.slice (some ⟨g, 0, none⟩) 1024 1024) ∧ w.heap.size ≤ g ∧ RowI w' 2 .i64 g 1024 (backv 512 1 268435456 x) ∧ Below w.heap.size w w' := by
  have bd' : ∀ j, -33554432 ≤ x.getD j 0 ∧ x.getD j 0 ≤ 33554432 := fun j => by have := bd j; omega
  have C1 := Lib.hid (rTurn512 sq src hl bd')
  have TB := Lib.hid (turn_bd512 bd')
  clear bd bd' sq src
  go_enter Try.func20, Try.ntmps20
  go_wp2_with fail
  refine C1.out.mono ?_
  rintro e1 w1 ⟨g1, rfl, hg1, hr1, b1⟩
  have sx := Src.of_sl (Sl.row hr1)
  rw [turnv_len] at sx
  have C2 := Lib.hid (rUnfold512 sx (turnv_len _ _ _ _) (fun j => by have := TB.out j; omega))
  have B1 := Lib.hid b1
  clear sx hr1 b1
  go_wp2_with fail
  refine C2.out.mono ?_
  rintro e2 w2 ⟨g2, rfl, hg2, hr2, b2⟩
  have s1 := B1.out.size
  have R2 := Lib.hid hr2
  have B2 := Lib.hid b2
  clear hr2 b2
  go_wp2_with fail
  go_ret
  exact ⟨g2, rfl, by omega, R2.out, B1.out.trans (B2.out.mono s1)⟩
set_option maxHeartbeats 1000000 in
set_option maxRecDepth 100000 in
theorem rForward512 {w : World} {A0 : Option Addr} {cap0 : Nat} (sq : Src w .i64 (.slice A0 1025 cap0) QT) {A : Option Addr} {cap : Nat} {x : List Int} (src : Src w .i64 (.slice A 1024 cap) x) (hl : x.length = 1024) (bd : ∀ j, -1048576 ≤ x.getD j 0 ∧ x.getD j 0 < 1048576) :
    Calls Try.prog 23 #[.slice A0 1025 cap0, .slice A 1024 cap] w fun e w' => ∃ g, e = .returned (.slice (some ⟨g, 0, none⟩) 512 512) ∧ w.heap.size ≤ g ∧ RowI w' 2 .i64 g 512 (fwdv 512 1 268435456 x) ∧ Below w.heap.size w w' := by
  have FB := Lib.hid (fold_bd (n := 512) bd)
  have C1 := Lib.hid (rFold512 src hl bd)
  have SQ := Lib.hid sq
  clear bd sq src
  obtain ⟨T, hT⟩ : ∃ T, turnv 512 1 268435456 (foldv 512 x) = T := ⟨_, rfl⟩
  have tl : T.length = 512 := by rw [← hT]; exact turnv_len _ _ _ _
  have tb : ∀ j, -1073741824 ≤ T.getD j 0 ∧ T.getD j 0 ≤ 1073741824 := by rw [← hT]; exact turn_bd512 FB.out
  obtain ⟨f, hf⟩ : ∃ f : Nat → Int, f = fun k => clampv (-33554432) 33554431 (T.getD k 0) := ⟨_, rfl⟩
  obtain ⟨t0, ht0⟩ : ∃ t0 : Nat → Int, t0 = fun k => T.getD k 0 := ⟨_, rfl⟩
  have e0 : T = mixTo f t0 512 0 := by
    rw [mix_none, ht0]
    apply List.ext_getElem
    · simp [tl]
    · intro j h1 h2
      simp [List.getElem?_eq_getElem h1]
  have ef : fwdv 512 1 268435456 x = mixTo f t0 512 512 := by
    rw [mix_all]
    unfold fwdv
    rw [hT, hf]
    apply List.ext_getElem
    · simp [tl]
    · intro j h1 h2
      simp at h1 h2 ⊢
      rw [List.getElem?_eq_getElem h1]
      rfl
  rw [ef]
  have TB := Lib.hid tb
  have HT := Lib.hid hT
  have HF := Lib.hid hf
  have HT0 := Lib.hid ht0
  have E0 := Lib.hid e0
  clear hT hf tl ef tb ht0 e0
  go_enter Try.func23, Try.ntmps23
  go_wp2_with fail
  refine C1.out.mono ?_
  rintro e1 w1 ⟨g1, rfl, hg1, hr1, b1⟩
  have sx := Src.of_sl (Sl.row hr1)
  rw [fold_len] at sx
  have C2 := Lib.hid (rTurn512 (Src.below SQ.out b1) sx (fold_len _ _) FB.out)
  have B1 := Lib.hid b1
  clear sx hr1 b1
  go_wp2_with fail
  refine C2.out.mono ?_
  rintro e2 w2 ⟨g2, rfl, hg2, hr2, b2⟩
  rw [HT.out] at hr2
  have s1 := B1.out.size
  have H0 : Hid (Hp w w2 [rowA 2 .i64 g2 512 (mixTo f t0 512 0)]) := Lib.hid (by
    rw [← E0.out]
    exact ((Hp.nil w).keep (B1.out.trans (b2.mono s1)) |>.perm (List.Perm.refl _)) |> fun _ => (((Hp.nil w).keep B1.out).add_row b2 hr2 hg2))
  have hg : w.heap.size ≤ g2 := by omega
  clear hr2 b2 hg1 hg2 s1
  go_wp2_with fail
  go_loopw [6] (fun u wr => ∃ k : Nat, k ≤ 512 ∧ u = .int .i64 (k : Int) ∧ Hid (Hp w wr [rowA 2 .i64 g2 512 (mixTo f t0 512 k)])) (fun u _ => 512 - (intOf u).toNat)
  case atStart => exact ⟨0, by omega, rfl, H0⟩
  case round =>
    clear H0
    obtain ⟨k, hk, rfl, H⟩ := hrel
    by_cases hlt : k < 512
    · have ik : (k : Int) < 512 := by omega
      have hc := H.out.row.cell (i := k) (by rw [mix_len]; omega)
      rw [mix_at, if_neg (by omega)] at hc
      have tb := TB.out k
      have fk : f k = clampv (-33554432) 33554431 (t0 k) := by rw [HF.out, HT0.out]
      have tk : T.getD k 0 = t0 k := by rw [HT0.out]
      rw [tk] at tb
      obtain ⟨v, hv⟩ : ∃ v, t0 k = v := ⟨_, rfl⟩
      rw [hv] at hc tb fk
      have FK := Lib.hid fk
      have fr := H.out.row.free k
      have hs := H.out.set k (f k)
      rw [mix_set] at hs
      have HS := Lib.hid hs
      clear hv fk hs tk
      go_wp2_with fail
      refine (rSat26 v (by omega) (by omega) _).mono ?_
      rw [← FK.out]
      rintro e4 w4 ⟨rfl, he⟩
      subst w4
      obtain ⟨z, hz⟩ : ∃ z, f k = z := ⟨_, rfl⟩
      rw [hz] at HS ⊢
      clear FK hz
      go_wp2_with fail
      go_roundw
      case rel => exact ⟨k + 1, by omega, by go_num, HS⟩
      case measure => simp [intOf]; omega
    · obtain rfl : k = 512 := by omega
      go_wp2_with fail
      go_ret
      exact ⟨_, rfl, hg, H.out.row, H.out.b⟩
set_option maxHeartbeats 1000000 in
set_option maxRecDepth 100000 in
theorem rBack128 {w : World} {A0 : Option Addr} {cap0 : Nat} (sq : Src w .i64 (.slice A0 1025 cap0) QT) {A : Option Addr} {cap : Nat} {x : List Int} (src : Src w .i64 (.slice A 128 cap) x) (hl : x.length = 128) (bd : ∀ j, -33554432 ≤ x.getD j 0 ∧ x.getD j 0 < 33554432) :
    Calls Try.prog 20 #[.slice A0 1025 cap0, .slice A 128 cap] w fun e w' => ∃ g, e = .returned (.slice (some ⟨g, 0, none⟩) 256 256) ∧ w.heap.size ≤ g ∧ RowI w' 2 .i64 g 256 (backv 128 4 134217728 x) ∧ Below w.heap.size w w' := by
  have bd' : ∀ j, -33554432 ≤ x.getD j 0 ∧ x.getD j 0 ≤ 33554432 := fun j => by have := bd j; omega
  have C1 := Lib.hid (rTurn128 sq src hl bd')
  have TB := Lib.hid (turn_bd128 bd')
  clear bd bd' sq src
  go_enter Try.func20, Try.ntmps20
  go_wp2_with fail
  refine C1.out.mono ?_
  rintro e1 w1 ⟨g1, rfl, hg1, hr1, b1⟩
  have sx := Src.of_sl (Sl.row hr1)
  rw [turnv_len] at sx
  have C2 := Lib.hid (rUnfold128 sx (turnv_len _ _ _ _) (fun j => by have := TB.out j; omega))
  have B1 := Lib.hid b1
  clear sx hr1 b1
  go_wp2_with fail
  refine C2.out.mono ?_
  rintro e2 w2 ⟨g2, rfl, hg2, hr2, b2⟩
  have s1 := B1.out.size
  have R2 := Lib.hid hr2
  have B2 := Lib.hid b2
  clear hr2 b2
  go_wp2_with fail
  go_ret
  exact ⟨g2, rfl, by omega, R2.out, B1.out.trans (B2.out.mono s1)⟩
set_option maxHeartbeats 1000000 in
set_option maxRecDepth 100000 in
theorem rForward128 {w : World} {A0 : Option Addr} {cap0 : Nat} (sq : Src w .i64 (.slice A0 1025 cap0) QT) {A : Option Addr} {cap : Nat} {x : List Int} (src : Src w .i64 (.slice A 256 cap) x) (hl : x.length = 256) (bd : ∀ j, -1048576 ≤ x.getD j 0 ∧ x.getD j 0 < 1048576) :
    Calls Try.prog 23 #[.slice A0 1025 cap0, .slice A 256 cap] w fun e w' => ∃ g, e = .returned (.slice (some ⟨g, 0, none⟩) 128 128) ∧ w.heap.size ≤ g ∧ RowI w' 2 .i64 g 128 (fwdv 128 4 134217728 x) ∧ Below w.heap.size w w' := by
  have FB := Lib.hid (fold_bd (n := 128) bd)
  have C1 := Lib.hid (rFold128 src hl bd)
  have SQ := Lib.hid sq
  clear bd sq src
  obtain ⟨T, hT⟩ : ∃ T, turnv 128 4 134217728 (foldv 128 x) = T := ⟨_, rfl⟩
  have tl : T.length = 128 := by rw [← hT]; exact turnv_len _ _ _ _
  have tb : ∀ j, -1073741824 ≤ T.getD j 0 ∧ T.getD j 0 ≤ 1073741824 := by rw [← hT]; exact turn_bd128 FB.out
  obtain ⟨f, hf⟩ : ∃ f : Nat → Int, f = fun k => clampv (-33554432) 33554431 (T.getD k 0) := ⟨_, rfl⟩
  obtain ⟨t0, ht0⟩ : ∃ t0 : Nat → Int, t0 = fun k => T.getD k 0 := ⟨_, rfl⟩
  have e0 : T = mixTo f t0 128 0 := by
    rw [mix_none, ht0]
    apply List.ext_getElem
    · simp [tl]
    · intro j h1 h2
      simp [List.getElem?_eq_getElem h1]
  have ef : fwdv 128 4 134217728 x = mixTo f t0 128 128 := by
    rw [mix_all]
    unfold fwdv
    rw [hT, hf]
    apply List.ext_getElem
    · simp [tl]
    · intro j h1 h2
      simp at h1 h2 ⊢
      rw [List.getElem?_eq_getElem h1]
      rfl
  rw [ef]
  have TB := Lib.hid tb
  have HT := Lib.hid hT
  have HF := Lib.hid hf
  have HT0 := Lib.hid ht0
  have E0 := Lib.hid e0
  clear hT hf tl ef tb ht0 e0
  go_enter Try.func23, Try.ntmps23
  go_wp2_with fail
  refine C1.out.mono ?_
  rintro e1 w1 ⟨g1, rfl, hg1, hr1, b1⟩
  have sx := Src.of_sl (Sl.row hr1)
  rw [fold_len] at sx
  have C2 := Lib.hid (rTurn128 (Src.below SQ.out b1) sx (fold_len _ _) FB.out)
  have B1 := Lib.hid b1
  clear sx hr1 b1
  go_wp2_with fail
  refine C2.out.mono ?_
  rintro e2 w2 ⟨g2, rfl, hg2, hr2, b2⟩
  rw [HT.out] at hr2
  have s1 := B1.out.size
  have H0 : Hid (Hp w w2 [rowA 2 .i64 g2 128 (mixTo f t0 128 0)]) := Lib.hid (by
    rw [← E0.out]
    exact ((Hp.nil w).keep (B1.out.trans (b2.mono s1)) |>.perm (List.Perm.refl _)) |> fun _ => (((Hp.nil w).keep B1.out).add_row b2 hr2 hg2))
  have hg : w.heap.size ≤ g2 := by omega
  clear hr2 b2 hg1 hg2 s1
  go_wp2_with fail
  go_loopw [6] (fun u wr => ∃ k : Nat, k ≤ 128 ∧ u = .int .i64 (k : Int) ∧ Hid (Hp w wr [rowA 2 .i64 g2 128 (mixTo f t0 128 k)])) (fun u _ => 128 - (intOf u).toNat)
  case atStart => exact ⟨0, by omega, rfl, H0⟩
  case round =>
    clear H0
    obtain ⟨k, hk, rfl, H⟩ := hrel
    by_cases hlt : k < 128
    · have ik : (k : Int) < 128 := by omega
      have hc := H.out.row.cell (i := k) (by rw [mix_len]; omega)
      rw [mix_at, if_neg (by omega)] at hc
      have tb := TB.out k
      have fk : f k = clampv (-33554432) 33554431 (t0 k) := by rw [HF.out, HT0.out]
      have tk : T.getD k 0 = t0 k := by rw [HT0.out]
      rw [tk] at tb
      obtain ⟨v, hv⟩ : ∃ v, t0 k = v := ⟨_, rfl⟩
      rw [hv] at hc tb fk
      have FK := Lib.hid fk
      have fr := H.out.row.free k
      have hs := H.out.set k (f k)
      rw [mix_set] at hs
      have HS := Lib.hid hs
      clear hv fk hs tk
      go_wp2_with fail
      refine (rSat26 v (by omega) (by omega) _).mono ?_
      rw [← FK.out]
      rintro e4 w4 ⟨rfl, he⟩
      subst w4
      obtain ⟨z, hz⟩ : ∃ z, f k = z := ⟨_, rfl⟩
      rw [hz] at HS ⊢
      clear FK hz
      go_wp2_with fail
      go_roundw
      case rel => exact ⟨k + 1, by omega, by go_num, HS⟩
      case measure => simp [intOf]; omega
    · obtain rfl : k = 128 := by omega
      go_wp2_with fail
      go_ret
      exact ⟨_, rfl, hg, H.out.row, H.out.b⟩
end Go.Proofs.Ytngldpeapcbbpaa.Lap

/-
  Law 8: what its statements call; walks. No condition but those told.
-/
set_option linter.unusedVariables false
set_option linter.unusedSimpArgs false
namespace Go.Proofs.Ytngldpeapcbbpaa.Lap
open Go.RowKit Go.Proofs.Ytngldpeapcbbpaa Go.Proofs.Ytngldpeapcbbpaa.Bnd Go.Proofs.Ytngldpeapcbbpaa.Art Go.Proofs.YtngldpeapcbbpaaW.PrintWords

/-- So many numbers from some, again and again, each time turned. -/
def fillAt (ys : List Int) (M : Int) (i : Nat) : Int := Int.tmod (if ys.length = 0 then 0 else ys.getD (i % ys.length) 0 * (1 + ((i / ys.length % 5 : Nat) : Int))) M
def fillv (ys : List Int) (M : Int) (n : Nat) : List Int := (List.range n).map (fillAt ys M)
theorem fillv_len (ys : List Int) (M : Int) (n : Nat) : (fillv ys M n).length = n := by simp [fillv]
theorem fillv_succ (ys : List Int) (M : Int) (n : Nat) : fillv ys M (n + 1) = fillv ys M n ++ [fillAt ys M n] := by simp [fillv, List.range_succ]
theorem tmod_bd (x M : Int) (h : 0 < M) : -M < Int.tmod x M ∧ Int.tmod x M < M := by
  constructor
  · have := Int.lt_tmod_of_pos x h; omega
  · exact Int.tmod_lt_of_pos x h
theorem fillAt_bd (ys : List Int) {M : Int} (h : 0 < M) (i : Nat) : -M < fillAt ys M i ∧ fillAt ys M i < M := tmod_bd _ _ h
theorem fillv_bd (ys : List Int) {M : Int} (h : 0 < M) (n j : Nat) : -M < (fillv ys M n).getD j 0 ∧ (fillv ys M n).getD j 0 < M := by
  by_cases hj : j < n
  · have e : (fillv ys M n).getD j 0 = fillAt ys M j := by simp [fillv, List.getD, hj]
    rw [e]
    exact fillAt_bd ys h j
  · have e : (fillv ys M n).getD j 0 = 0 := by simp [fillv, List.getD, hj]
    rw [e]
    omega
theorem fillv_within (ys : List Int) {M : Int} (h : 0 < M) (n : Nat) : within M (fillv ys M n) = true := by
  unfold within
  rw [List.all_eq_true]
  intro x hx
  simp only [fillv, List.mem_map] at hx
  obtain ⟨i, _, rfl⟩ := hx
  have := fillAt_bd ys h i
  simp
  omega
theorem Sl_empty (w : World) (e : TypeId) (k : IntKind) : Sl (w.alloc (.cells #[] e)) e k (.slice (some ⟨w.heap.size, 0, none⟩) 0 0) [] :=
  .inr ⟨w.heap.size, 0, rfl, #[], Blk.new w e #[], Nat.le_refl _, Nat.zero_le _, rfl, fun i h => by cases h⟩
theorem added_fresh {w w1 : World} {o : Obj} {e : TypeId} {k : IntKind} {v1 : Value} {ys : List Int} (h : Added (w.alloc o) w1 e k (.slice (some ⟨w.heap.size, 0, none⟩) 0 0) v1 ys (w.alloc o).heap.size) :
    Below w.heap.size w w1 ∧ ∀ g, v1.ownBlock = some g → w.heap.size ≤ g := by
  have hs : (w.alloc o).heap.size = w.heap.size + 1 := by simp
  have e0 : (Value.slice (some ⟨w.heap.size, 0, none⟩) 0 0).ownBlock = some w.heap.size := rfl
  refine ⟨((Below.refl _ _).alloc (Nat.le_refl _) _ : Below _ _ _).trans (h.only.below (B := w.heap.size) (by omega) (fun i hi => ?_)), fun g hg => ?_⟩
  · rw [e0] at hi; injection hi with hi; omega
  · rcases h.at_ with h1 | h1
    · rw [h1, e0] at hg; injection hg with hg; omega
    · rw [h1] at hg; injection hg with hg; omega
theorem info_i32 : (Try.prog.info? 21).map (fun i => (i.zero, i.size, i.bytes)) = some (some (.int .i32 0), 1, 4) := by kernel_rfl
theorem info_i64 : (Try.prog.info? 2).map (fun i => (i.zero, i.size, i.bytes)) = some (some (.int .i64 0), 1, 8) := by kernel_rfl
attribute [local irreducible] cosv wgt qt QT
set_option maxHeartbeats 1000000 in
set_option maxRecDepth 100000 in
theorem fill20 {W w : World} {l : List Ast} (H : Hp W w l) {A : Option Addr} {len cap : Nat} {ys : List Int} (rd : Rd W l .i32 (.slice A len cap) ys) (hl : ys.length = len) (hs : len ≤ 100000) (b32 : ∀ j, -2147483648 ≤ ys.getD j 0 ∧ ys.getD j 0 ≤ 2147483647) (n : Nat) (hn : n ≤ 4096) :
    Calls Try.prog 17 #[.slice A len cap, .int .i64 n, .int .i64 20] w fun e w' => ∃ v1 v2, e = .returned (.tuple #[v1, v2]) ∧ Hp W w' (slA 21 .i32 v1 (fillv ys 524288 n) :: slA 2 .i64 v2 (fillv ys 524288 n) :: l) := by
  have RD := Lib.hid rd
  have B32 := Lib.hid b32
  have HL := Lib.hid hl
  have H0 : Hid (Hp W w (slA 21 .i32 (.slice none 0 0) (fillv ys 524288 0) :: slA 2 .i64 (.slice none 0 0) (fillv ys 524288 0) :: l)) := Lib.hid (by
    have h1 := H.add_sl (t := 2) (k := .i64) (Below.refl _ _) (Sl.nil w 2 .i64) (fun g hg => by cases hg)
    exact h1.add_sl (t := 21) (k := .i32) (Below.refl _ _) (Sl.nil w 21 .i32) (fun g hg => by cases hg))
  clear rd b32 hl H
  go_enter Try.func17, Try.ntmps17
  go_wp2_with fail
  go_loopw [8, 9, 13] (fun u v i wr => ∃ k : Nat, k ≤ n ∧ i = .int .i64 (k : Int) ∧ Hid (Hp W wr (slA 21 .i32 u (fillv ys 524288 k) :: slA 2 .i64 v (fillv ys 524288 k) :: l))) (fun _ _ i _ => n - (intOf i).toNat)
  case atStart => exact ⟨0, by omega, rfl, H0⟩
  case round =>
    clear H0
    obtain ⟨k, hk, rfl, HH⟩ := hrel
    by_cases hlt : k < n
    · have ik : (k : Int) < (n : Int) := by omega
      obtain ⟨x, hx⟩ : ∃ x, fillAt ys 524288 k = x := ⟨_, rfl⟩
      have bx := fillAt_bd ys (M := 524288) (by decide) k
      rw [hx] at bx
      obtain ⟨xr, hxr⟩ : ∃ xr, (if len = 0 then 0 else ys.getD (k % len) 0 * (1 + ((k / len % 5 : Nat) : Int))) = xr := ⟨_, rfl⟩
      have hv : Int.tmod xr 524288 = x := by
        rw [← hx, ← hxr]
        unfold fillAt
        rw [HL.out]
      have HX := Lib.hid hx
      have HV := Lib.hid hv
      clear hx hv
      go_upto_if 18 with fail
      go_cut [11] (fun q wc => q = .int .i64 xr ∧ (-10737418240 ≤ xr ∧ xr ≤ 10737418240) ∧ Hid (Hp W wc (slA 21 .i32 u8 (fillv ys 524288 k) :: slA 2 .i64 u9 (fillv ys 524288 k) :: l)))
      case first =>
        by_cases h0 : len = 0
        · rw [if_pos h0] at hxr
          subst hxr
          have l1 : ((len : Nat) : Int) = 0 := by omega
          have l2 : decide ((0 : Int) < (len : Int)) = false := decide_eq_false (by omega)
          go_wp2_with fail
          go_meet
          exact ⟨rfl, by omega, HH⟩
        · rw [if_neg h0] at hxr
          obtain ⟨ad, rfl, _⟩ := Src.at (RD.out wr (HH.out.pk [] |> fun _ => HH.out.drop.drop)) (j := 0) (by rw [HL.out]; omega)
          have hmod := Nat.mod_lt k (show 0 < len by omega)
          obtain ⟨_, e0, hc⟩ := Src.at (RD.out wr HH.out.drop.drop) (j := k % len) (by rw [HL.out]; omega)
          cases e0
          have by_ := B32.out (k % len)
          have e1 : Int.tmod (k : Int) (len : Int) = ((k % len : Nat) : Int) := by rw [Int.tmod_eq_emod_of_nonneg (by omega)]; exact (Int.natCast_emod k len).symm
          have e2 : Int.tdiv (k : Int) (len : Int) = ((k / len : Nat) : Int) := by rw [Int.tdiv_eq_ediv_of_nonneg (by omega)]; exact (Int.natCast_ediv k len).symm
          have dk := Nat.div_le_self k len
          have e3 : Int.tmod ((k / len : Nat) : Int) 5 = ((k / len % 5 : Nat) : Int) := by rw [Int.tmod_eq_emod_of_nonneg (Int.natCast_nonneg _)]; exact (Int.natCast_emod _ 5).symm
          obtain ⟨m, hm⟩ : ∃ m : Nat, k % len = m := ⟨_, rfl⟩
          obtain ⟨d, hd⟩ : ∃ d : Nat, k / len = d := ⟨_, rfl⟩
          obtain ⟨r, hr⟩ : ∃ r : Nat, d % 5 = r := ⟨_, rfl⟩
          have r5 : r < 5 := by omega
          rw [hm] at hc hxr e1 by_ hmod
          rw [hd] at hxr e2 e3 dk
          rw [hr] at hxr e3
          obtain ⟨y, hy⟩ : ∃ y, ys.getD m 0 = y := ⟨_, rfl⟩
          rw [hy] at hc hxr by_
          have zb := mul_bd (x := y) (y := 1 + (r : Int)) (B := 2147483648) (C := 5) (by decide) (by decide) (by omega) (by omega)
          rw [hxr] at zb
          have w1 : IntKind.i64.wrap (y * (1 + (r : Int))) = xr := by rw [wrapI64 (by rw [hxr]; omega) (by rw [hxr]; omega), hxr]
          have w2 : IntKind.i64.wrap (1 + (r : Int)) = 1 + r := wrapI64 (by omega) (by omega)
          have w3 : IntKind.i64.wrap y = y := wrapI64 (by omega) (by omega)
          have w4 : IntKind.i64.wrap (r : Int) = r := wrapI64 (by omega) (by omega)
          have w5 : IntKind.i64.wrap (d : Int) = d := wrapI64 (by omega) (by omega)
          have w6 : IntKind.i64.wrap (m : Int) = m := wrapI64 (by omega) (by omega)
          have l0 : ¬ len = 0 := h0
          have l1 : ¬ (len : Int) = 0 := by omega
          have l2 : ((len : Int) == 0) = false := by rw [beq_eq_false_iff_ne]; omega
          have l3 : (m : Int) < (len : Int) := by omega
          have l4 : (len : Int) ≠ 0 := by omega
          have l5 : 0 < len := by omega
          clear hm hd hr hy hxr
          go_wp2_with fail
          go_quiet (fail)
          clear e1 e2 e3 w1 w2 w3 w4 w5 w6
          go_wp2_with fail
          go_meet
          exact ⟨rfl, by omega, Lib.hid (HH.out.drewN _)⟩
      case rest =>
        clear HH
        obtain ⟨rfl, xb, HH⟩ := hcut
        have hv := HV.out
        have x0 : IntKind.i32.wrap x = x := by
          have h := IntKind.wrap_i32 x
          rw [h]; omega
        go_wp2_with (first
          | (at_builtin; refine wpList_push (.tmp 39) (.tmp 42) 22 21 .i32 0 4 rfl rfl Try.underlying22 info_i32 u8 (fillv ys 524288 k) k x ⟨wc.heap.size, 0, none⟩ (wc.heap.size + 1) rfl rfl (HH.out.sl.alloc _) (fillv_len _ _ _) ((Blk.new wc _ _).cell rfl) (by simp) (by omega) (by omega) ?_
             intro g cap1 w1 hp
             have h1 := ((HH.out.alloc _).push hp (by simp)).row_sl (n := k + 1) (by rw [List.length_append, fillv_len]; rfl)
             rw [← HX.out, ← fillv_succ] at h1
             have H1 := Lib.hid h1.up1
             clear hp h1)
          | (at_builtin; refine wpList_push (.tmp 44) (.tmp 46) 31 2 .i64 0 8 rfl rfl Try.underlying31 info_i64 u9 (fillv ys 524288 k) k x ⟨w1.heap.size, 0, none⟩ (w1.heap.size + 1) rfl rfl (H1.out.sl.alloc _) (fillv_len _ _ _) ((Blk.new w1 _ _).cell rfl) (by simp) (by omega) (by omega) ?_
             intro g2 cap2 w2 hp
             have h1 := ((H1.out.alloc _).push hp (by simp)).row_sl (n := k + 1) (by rw [List.length_append, fillv_len]; rfl)
             rw [← HX.out, ← fillv_succ] at h1
             have H2 := Lib.hid h1.up1
             clear hp h1))
        go_roundw
        case rel => exact ⟨k + 1, by omega, by go_num, H2⟩
        case measure => simp [intOf]; omega
    · obtain rfl : k = n := by omega
      go_wp2_with fail
      go_ret2
      exact ⟨_, _, rfl, HH.out⟩
set_option maxHeartbeats 1000000 in
set_option maxRecDepth 100000 in
theorem fill21 {W w : World} {l : List Ast} (H : Hp W w l) {A : Option Addr} {len cap : Nat} {ys : List Int} (rd : Rd W l .i32 (.slice A len cap) ys) (hl : ys.length = len) (hs : len ≤ 100000) (b32 : ∀ j, -2147483648 ≤ ys.getD j 0 ∧ ys.getD j 0 ≤ 2147483647) (n : Nat) (hn : n ≤ 4096) :
    Calls Try.prog 17 #[.slice A len cap, .int .i64 n, .int .i64 21] w fun e w' => ∃ v1 v2, e = .returned (.tuple #[v1, v2]) ∧ Hp W w' (slA 21 .i32 v1 (fillv ys 1048576 n) :: slA 2 .i64 v2 (fillv ys 1048576 n) :: l) := by
  have RD := Lib.hid rd
  have B32 := Lib.hid b32
  have HL := Lib.hid hl
  have H0 : Hid (Hp W w (slA 21 .i32 (.slice none 0 0) (fillv ys 1048576 0) :: slA 2 .i64 (.slice none 0 0) (fillv ys 1048576 0) :: l)) := Lib.hid (by
    have h1 := H.add_sl (t := 2) (k := .i64) (Below.refl _ _) (Sl.nil w 2 .i64) (fun g hg => by cases hg)
    exact h1.add_sl (t := 21) (k := .i32) (Below.refl _ _) (Sl.nil w 21 .i32) (fun g hg => by cases hg))
  clear rd b32 hl H
  go_enter Try.func17, Try.ntmps17
  go_wp2_with fail
  go_loopw [8, 9, 13] (fun u v i wr => ∃ k : Nat, k ≤ n ∧ i = .int .i64 (k : Int) ∧ Hid (Hp W wr (slA 21 .i32 u (fillv ys 1048576 k) :: slA 2 .i64 v (fillv ys 1048576 k) :: l))) (fun _ _ i _ => n - (intOf i).toNat)
  case atStart => exact ⟨0, by omega, rfl, H0⟩
  case round =>
    clear H0
    obtain ⟨k, hk, rfl, HH⟩ := hrel
    by_cases hlt : k < n
    · have ik : (k : Int) < (n : Int) := by omega
      obtain ⟨x, hx⟩ : ∃ x, fillAt ys 1048576 k = x := ⟨_, rfl⟩
      have bx := fillAt_bd ys (M := 1048576) (by decide) k
      rw [hx] at bx
      obtain ⟨xr, hxr⟩ : ∃ xr, (if len = 0 then 0 else ys.getD (k % len) 0 * (1 + ((k / len % 5 : Nat) : Int))) = xr := ⟨_, rfl⟩
      have hv : Int.tmod xr 1048576 = x := by
        rw [← hx, ← hxr]
        unfold fillAt
        rw [HL.out]
      have HX := Lib.hid hx
      have HV := Lib.hid hv
      clear hx hv
      go_upto_if 18 with fail
      go_cut [11] (fun q wc => q = .int .i64 xr ∧ (-10737418240 ≤ xr ∧ xr ≤ 10737418240) ∧ Hid (Hp W wc (slA 21 .i32 u8 (fillv ys 1048576 k) :: slA 2 .i64 u9 (fillv ys 1048576 k) :: l)))
      case first =>
        by_cases h0 : len = 0
        · rw [if_pos h0] at hxr
          subst hxr
          have l1 : ((len : Nat) : Int) = 0 := by omega
          have l2 : decide ((0 : Int) < (len : Int)) = false := decide_eq_false (by omega)
          go_wp2_with fail
          go_meet
          exact ⟨rfl, by omega, HH⟩
        · rw [if_neg h0] at hxr
          obtain ⟨ad, rfl, _⟩ := Src.at (RD.out wr (HH.out.pk [] |> fun _ => HH.out.drop.drop)) (j := 0) (by rw [HL.out]; omega)
          have hmod := Nat.mod_lt k (show 0 < len by omega)
          obtain ⟨_, e0, hc⟩ := Src.at (RD.out wr HH.out.drop.drop) (j := k % len) (by rw [HL.out]; omega)
          cases e0
          have by_ := B32.out (k % len)
          have e1 : Int.tmod (k : Int) (len : Int) = ((k % len : Nat) : Int) := by rw [Int.tmod_eq_emod_of_nonneg (by omega)]; exact (Int.natCast_emod k len).symm
          have e2 : Int.tdiv (k : Int) (len : Int) = ((k / len : Nat) : Int) := by rw [Int.tdiv_eq_ediv_of_nonneg (by omega)]; exact (Int.natCast_ediv k len).symm
          have dk := Nat.div_le_self k len
          have e3 : Int.tmod ((k / len : Nat) : Int) 5 = ((k / len % 5 : Nat) : Int) := by rw [Int.tmod_eq_emod_of_nonneg (Int.natCast_nonneg _)]; exact (Int.natCast_emod _ 5).symm
          obtain ⟨m, hm⟩ : ∃ m : Nat, k % len = m := ⟨_, rfl⟩
          obtain ⟨d, hd⟩ : ∃ d : Nat, k / len = d := ⟨_, rfl⟩
          obtain ⟨r, hr⟩ : ∃ r : Nat, d % 5 = r := ⟨_, rfl⟩
          have r5 : r < 5 := by omega
          rw [hm] at hc hxr e1 by_ hmod
          rw [hd] at hxr e2 e3 dk
          rw [hr] at hxr e3
          obtain ⟨y, hy⟩ : ∃ y, ys.getD m 0 = y := ⟨_, rfl⟩
          rw [hy] at hc hxr by_
          have zb := mul_bd (x := y) (y := 1 + (r : Int)) (B := 2147483648) (C := 5) (by decide) (by decide) (by omega) (by omega)
          rw [hxr] at zb
          have w1 : IntKind.i64.wrap (y * (1 + (r : Int))) = xr := by rw [wrapI64 (by rw [hxr]; omega) (by rw [hxr]; omega), hxr]
          have w2 : IntKind.i64.wrap (1 + (r : Int)) = 1 + r := wrapI64 (by omega) (by omega)
          have w3 : IntKind.i64.wrap y = y := wrapI64 (by omega) (by omega)
          have w4 : IntKind.i64.wrap (r : Int) = r := wrapI64 (by omega) (by omega)
          have w5 : IntKind.i64.wrap (d : Int) = d := wrapI64 (by omega) (by omega)
          have w6 : IntKind.i64.wrap (m : Int) = m := wrapI64 (by omega) (by omega)
          have l0 : ¬ len = 0 := h0
          have l1 : ¬ (len : Int) = 0 := by omega
          have l2 : ((len : Int) == 0) = false := by rw [beq_eq_false_iff_ne]; omega
          have l3 : (m : Int) < (len : Int) := by omega
          have l4 : (len : Int) ≠ 0 := by omega
          have l5 : 0 < len := by omega
          clear hm hd hr hy hxr
          go_wp2_with fail
          go_quiet (fail)
          clear e1 e2 e3 w1 w2 w3 w4 w5 w6
          go_wp2_with fail
          go_meet
          exact ⟨rfl, by omega, Lib.hid (HH.out.drewN _)⟩
      case rest =>
        clear HH
        obtain ⟨rfl, xb, HH⟩ := hcut
        have hv := HV.out
        have x0 : IntKind.i32.wrap x = x := by
          have h := IntKind.wrap_i32 x
          rw [h]; omega
        go_wp2_with (first
          | (at_builtin; refine wpList_push (.tmp 39) (.tmp 42) 22 21 .i32 0 4 rfl rfl Try.underlying22 info_i32 u8 (fillv ys 1048576 k) k x ⟨wc.heap.size, 0, none⟩ (wc.heap.size + 1) rfl rfl (HH.out.sl.alloc _) (fillv_len _ _ _) ((Blk.new wc _ _).cell rfl) (by simp) (by omega) (by omega) ?_
             intro g cap1 w1 hp
             have h1 := ((HH.out.alloc _).push hp (by simp)).row_sl (n := k + 1) (by rw [List.length_append, fillv_len]; rfl)
             rw [← HX.out, ← fillv_succ] at h1
             have H1 := Lib.hid h1.up1
             clear hp h1)
          | (at_builtin; refine wpList_push (.tmp 44) (.tmp 46) 31 2 .i64 0 8 rfl rfl Try.underlying31 info_i64 u9 (fillv ys 1048576 k) k x ⟨w1.heap.size, 0, none⟩ (w1.heap.size + 1) rfl rfl (H1.out.sl.alloc _) (fillv_len _ _ _) ((Blk.new w1 _ _).cell rfl) (by simp) (by omega) (by omega) ?_
             intro g2 cap2 w2 hp
             have h1 := ((H1.out.alloc _).push hp (by simp)).row_sl (n := k + 1) (by rw [List.length_append, fillv_len]; rfl)
             rw [← HX.out, ← fillv_succ] at h1
             have H2 := Lib.hid h1.up1
             clear hp h1))
        go_roundw
        case rel => exact ⟨k + 1, by omega, by go_num, H2⟩
        case measure => simp [intOf]; omega
    · obtain rfl : k = n := by omega
      go_wp2_with fail
      go_ret2
      exact ⟨_, _, rfl, HH.out⟩
set_option maxHeartbeats 1000000 in
set_option maxRecDepth 100000 in
theorem fill26 {W w : World} {l : List Ast} (H : Hp W w l) {A : Option Addr} {len cap : Nat} {ys : List Int} (rd : Rd W l .i32 (.slice A len cap) ys) (hl : ys.length = len) (hs : len ≤ 100000) (b32 : ∀ j, -2147483648 ≤ ys.getD j 0 ∧ ys.getD j 0 ≤ 2147483647) (n : Nat) (hn : n ≤ 4096) :
    Calls Try.prog 17 #[.slice A len cap, .int .i64 n, .int .i64 26] w fun e w' => ∃ v1 v2, e = .returned (.tuple #[v1, v2]) ∧ Hp W w' (slA 21 .i32 v1 (fillv ys 33554432 n) :: slA 2 .i64 v2 (fillv ys 33554432 n) :: l) := by
  have RD := Lib.hid rd
  have B32 := Lib.hid b32
  have HL := Lib.hid hl
  have H0 : Hid (Hp W w (slA 21 .i32 (.slice none 0 0) (fillv ys 33554432 0) :: slA 2 .i64 (.slice none 0 0) (fillv ys 33554432 0) :: l)) := Lib.hid (by
    have h1 := H.add_sl (t := 2) (k := .i64) (Below.refl _ _) (Sl.nil w 2 .i64) (fun g hg => by cases hg)
    exact h1.add_sl (t := 21) (k := .i32) (Below.refl _ _) (Sl.nil w 21 .i32) (fun g hg => by cases hg))
  clear rd b32 hl H
  go_enter Try.func17, Try.ntmps17
  go_wp2_with fail
  go_loopw [8, 9, 13] (fun u v i wr => ∃ k : Nat, k ≤ n ∧ i = .int .i64 (k : Int) ∧ Hid (Hp W wr (slA 21 .i32 u (fillv ys 33554432 k) :: slA 2 .i64 v (fillv ys 33554432 k) :: l))) (fun _ _ i _ => n - (intOf i).toNat)
  case atStart => exact ⟨0, by omega, rfl, H0⟩
  case round =>
    clear H0
    obtain ⟨k, hk, rfl, HH⟩ := hrel
    by_cases hlt : k < n
    · have ik : (k : Int) < (n : Int) := by omega
      obtain ⟨x, hx⟩ : ∃ x, fillAt ys 33554432 k = x := ⟨_, rfl⟩
      have bx := fillAt_bd ys (M := 33554432) (by decide) k
      rw [hx] at bx
      obtain ⟨xr, hxr⟩ : ∃ xr, (if len = 0 then 0 else ys.getD (k % len) 0 * (1 + ((k / len % 5 : Nat) : Int))) = xr := ⟨_, rfl⟩
      have hv : Int.tmod xr 33554432 = x := by
        rw [← hx, ← hxr]
        unfold fillAt
        rw [HL.out]
      have HX := Lib.hid hx
      have HV := Lib.hid hv
      clear hx hv
      go_upto_if 18 with fail
      go_cut [11] (fun q wc => q = .int .i64 xr ∧ (-10737418240 ≤ xr ∧ xr ≤ 10737418240) ∧ Hid (Hp W wc (slA 21 .i32 u8 (fillv ys 33554432 k) :: slA 2 .i64 u9 (fillv ys 33554432 k) :: l)))
      case first =>
        by_cases h0 : len = 0
        · rw [if_pos h0] at hxr
          subst hxr
          have l1 : ((len : Nat) : Int) = 0 := by omega
          have l2 : decide ((0 : Int) < (len : Int)) = false := decide_eq_false (by omega)
          go_wp2_with fail
          go_meet
          exact ⟨rfl, by omega, HH⟩
        · rw [if_neg h0] at hxr
          obtain ⟨ad, rfl, _⟩ := Src.at (RD.out wr (HH.out.pk [] |> fun _ => HH.out.drop.drop)) (j := 0) (by rw [HL.out]; omega)
          have hmod := Nat.mod_lt k (show 0 < len by omega)
          obtain ⟨_, e0, hc⟩ := Src.at (RD.out wr HH.out.drop.drop) (j := k % len) (by rw [HL.out]; omega)
          cases e0
          have by_ := B32.out (k % len)
          have e1 : Int.tmod (k : Int) (len : Int) = ((k % len : Nat) : Int) := by rw [Int.tmod_eq_emod_of_nonneg (by omega)]; exact (Int.natCast_emod k len).symm
          have e2 : Int.tdiv (k : Int) (len : Int) = ((k / len : Nat) : Int) := by rw [Int.tdiv_eq_ediv_of_nonneg (by omega)]; exact (Int.natCast_ediv k len).symm
          have dk := Nat.div_le_self k len
          have e3 : Int.tmod ((k / len : Nat) : Int) 5 = ((k / len % 5 : Nat) : Int) := by rw [Int.tmod_eq_emod_of_nonneg (Int.natCast_nonneg _)]; exact (Int.natCast_emod _ 5).symm
          obtain ⟨m, hm⟩ : ∃ m : Nat, k % len = m := ⟨_, rfl⟩
          obtain ⟨d, hd⟩ : ∃ d : Nat, k / len = d := ⟨_, rfl⟩
          obtain ⟨r, hr⟩ : ∃ r : Nat, d % 5 = r := ⟨_, rfl⟩
          have r5 : r < 5 := by omega
          rw [hm] at hc hxr e1 by_ hmod
          rw [hd] at hxr e2 e3 dk
          rw [hr] at hxr e3
          obtain ⟨y, hy⟩ : ∃ y, ys.getD m 0 = y := ⟨_, rfl⟩
          rw [hy] at hc hxr by_
          have zb := mul_bd (x := y) (y := 1 + (r : Int)) (B := 2147483648) (C := 5) (by decide) (by decide) (by omega) (by omega)
          rw [hxr] at zb
          have w1 : IntKind.i64.wrap (y * (1 + (r : Int))) = xr := by rw [wrapI64 (by rw [hxr]; omega) (by rw [hxr]; omega), hxr]
          have w2 : IntKind.i64.wrap (1 + (r : Int)) = 1 + r := wrapI64 (by omega) (by omega)
          have w3 : IntKind.i64.wrap y = y := wrapI64 (by omega) (by omega)
          have w4 : IntKind.i64.wrap (r : Int) = r := wrapI64 (by omega) (by omega)
          have w5 : IntKind.i64.wrap (d : Int) = d := wrapI64 (by omega) (by omega)
          have w6 : IntKind.i64.wrap (m : Int) = m := wrapI64 (by omega) (by omega)
          have l0 : ¬ len = 0 := h0
          have l1 : ¬ (len : Int) = 0 := by omega
          have l2 : ((len : Int) == 0) = false := by rw [beq_eq_false_iff_ne]; omega
          have l3 : (m : Int) < (len : Int) := by omega
          have l4 : (len : Int) ≠ 0 := by omega
          have l5 : 0 < len := by omega
          clear hm hd hr hy hxr
          go_wp2_with fail
          go_quiet (fail)
          clear e1 e2 e3 w1 w2 w3 w4 w5 w6
          go_wp2_with fail
          go_meet
          exact ⟨rfl, by omega, Lib.hid (HH.out.drewN _)⟩
      case rest =>
        clear HH
        obtain ⟨rfl, xb, HH⟩ := hcut
        have hv := HV.out
        have x0 : IntKind.i32.wrap x = x := by
          have h := IntKind.wrap_i32 x
          rw [h]; omega
        go_wp2_with (first
          | (at_builtin; refine wpList_push (.tmp 39) (.tmp 42) 22 21 .i32 0 4 rfl rfl Try.underlying22 info_i32 u8 (fillv ys 33554432 k) k x ⟨wc.heap.size, 0, none⟩ (wc.heap.size + 1) rfl rfl (HH.out.sl.alloc _) (fillv_len _ _ _) ((Blk.new wc _ _).cell rfl) (by simp) (by omega) (by omega) ?_
             intro g cap1 w1 hp
             have h1 := ((HH.out.alloc _).push hp (by simp)).row_sl (n := k + 1) (by rw [List.length_append, fillv_len]; rfl)
             rw [← HX.out, ← fillv_succ] at h1
             have H1 := Lib.hid h1.up1
             clear hp h1)
          | (at_builtin; refine wpList_push (.tmp 44) (.tmp 46) 31 2 .i64 0 8 rfl rfl Try.underlying31 info_i64 u9 (fillv ys 33554432 k) k x ⟨w1.heap.size, 0, none⟩ (w1.heap.size + 1) rfl rfl (H1.out.sl.alloc _) (fillv_len _ _ _) ((Blk.new w1 _ _).cell rfl) (by simp) (by omega) (by omega) ?_
             intro g2 cap2 w2 hp
             have h1 := ((H1.out.alloc _).push hp (by simp)).row_sl (n := k + 1) (by rw [List.length_append, fillv_len]; rfl)
             rw [← HX.out, ← fillv_succ] at h1
             have H2 := Lib.hid h1.up1
             clear hp h1))
        go_roundw
        case rel => exact ⟨k + 1, by omega, by go_num, H2⟩
        case measure => simp [intOf]; omega
    · obtain rfl : k = n := by omega
      go_wp2_with fail
      go_ret2
      exact ⟨_, _, rfl, HH.out⟩
set_option maxHeartbeats 1000000 in
theorem same_yes {w : World} {A B : Option Addr} {n c1 c2 : Nat} {xs : List Int} (sa : Src w .i32 (.slice A n c1) xs) (sb : Src w .i64 (.slice B n c2) xs) (hl : xs.length = n) (hn : n ≤ 4096) (b32 : ∀ j, -2147483648 ≤ xs.getD j 0 ∧ xs.getD j 0 ≤ 2147483647) :
    Calls Try.prog 19 #[.slice A n c1, .slice B n c2] w fun e w' => e = .returned (.bool true) ∧ ∃ q, w' = w.drewN q := by
  have SA := Lib.hid sa
  have SB := Lib.hid sb
  have HL := Lib.hid hl
  have B32 := Lib.hid b32
  clear sa sb hl b32
  go_enter Try.func19, Try.ntmps19
  go_wp2_with fail
  go_loopw [13] (fun i wr => ∃ k q : Nat, k ≤ n ∧ i = .int .i64 (k : Int) ∧ wr = w.drewN q) (fun i _ => n - (intOf i).toNat)
  case atStart => exact ⟨0, 0, by omega, rfl, rfl⟩
  case round =>
    obtain ⟨k, q, hk, rfl, rfl⟩ := hrel
    by_cases hlt : k < n
    · have ik : (k : Int) < (n : Int) := by omega
      obtain ⟨ad, rfl, c1⟩ := Src.at SA.out (j := k) (by rw [HL.out]; exact hlt)
      obtain ⟨bd, rfl, c2⟩ := Src.at SB.out (j := k) (by rw [HL.out]; exact hlt)
      have bx := B32.out k
      obtain ⟨x, hx⟩ : ∃ x, xs.getD k 0 = x := ⟨_, rfl⟩
      rw [hx] at c1 c2 bx
      have w1 : IntKind.i64.wrap x = x := wrapI64 (by omega) (by omega)
      have d1 : (w.drewN q).cell? (ad.add k) = some (.int .i32 x) := c1
      have d2 : (w.drewN q).cell? (bd.add k) = some (.int .i64 x) := c2
      obtain ⟨w2, hw2⟩ : ∃ w2, w.drewN q = w2 := ⟨_, rfl⟩
      rw [hw2] at d1 d2 ⊢
      have HW2 := Lib.hid hw2
      clear hx c1 c2 hw2
      go_wp2_with fail
      go_quiet (fail)
      clear w1
      go_wp2_with fail
      go_roundw
      case rel => exact ⟨k + 1, q + _, by omega, by go_num, by rw [← HW2.out, World.drewN_drewN]⟩
      case measure => simp [intOf]; omega
    · obtain rfl : k = n := by omega
      go_wp2_with fail
      go_ret
      exact ⟨rfl, _, rfl⟩
theorem size_calls (b : Bool) (w : World) : Calls Try.prog 14 #[.bool b] w fun e w' => e = .returned (.int .i64 (if b then 512 else 128)) ∧ w' = w := by
  cases b
  all_goals
    go_enter Try.func14, Try.ntmps14
    go_wp2_with fail
    go_ret
    exact ⟨rfl, rfl⟩
end Go.Proofs.Ytngldpeapcbbpaa.Lap

/-
  The tools of both ways of overlap, and the slopes; walks. No condition but those told.
-/
set_option linter.unusedVariables false
set_option linter.unusedSimpArgs false
namespace Go.Proofs.Ytngldpeapcbbpaa.Lap
open Go.RowKit Go.Proofs.Ytngldpeapcbbpaa Go.Proofs.Ytngldpeapcbbpaa.Bnd Go.Proofs.Ytngldpeapcbbpaa.Art Go.Proofs.YtngldpeapcbbpaaW.PrintWords

/-- What a place of a frame weighs. -/
def slope (n i : Nat) : Int := if risev ((n : Int) - 1 - i) < risev i then risev ((n : Int) - 1 - i) else risev i
def shapeAt (x : List Int) (i : Nat) : Int := rdv 16777216 (x.getD i 0 * slope x.length i)
def shapev (x : List Int) : List Int := (List.range x.length).map (shapeAt x)
theorem rise_bd (x : Int) : -16777216 ≤ risev x ∧ risev x ≤ 16777216 := by
  unfold risev
  have := cos_bd (1024 - 4 * (2 * x + 1))
  split
  · decide
  · split
    · decide
    · exact this
theorem slope_bd (n i : Nat) : -16777216 ≤ slope n i ∧ slope n i ≤ 16777216 := by
  unfold slope
  split
  · exact rise_bd _
  · exact rise_bd _
theorem shape_bd {x : List Int} {B : Int} (hB : 0 ≤ B) (h : ∀ j, -B ≤ x.getD j 0 ∧ x.getD j 0 ≤ B) (i : Nat) : -B ≤ shapeAt x i ∧ shapeAt x i ≤ B := by
  have b := mul_bd hB (by decide) (h i) (slope_bd x.length i)
  unfold shapeAt rdv
  omega
attribute [local irreducible] cosv wgt qt QT risev
set_option maxHeartbeats 2000000 in
set_option maxRecDepth 100000 in
theorem shape_calls {w : World} {c : Nat} (hc : Circ w c) (q1 q2 : Value) {A : Option Addr} {n cap : Nat} {x : List Int} (src : Src w .i32 (.slice A n cap) x) (hl : x.length = n) (n1 : 1 ≤ n) (n2 : n ≤ 4096) (bd : ∀ j, -2147483647 ≤ x.getD j 0 ∧ x.getD j 0 ≤ 2147483647) :
    Calls Try.prog 51 #[.agg #[.pointer (some ⟨c, 0, none⟩), q1, q2], .slice A n cap] w fun e w' => ∃ g, e = .returned (.slice (some ⟨g, 0, none⟩) n n) ∧ w.heap.size ≤ g ∧ RowI w' 21 .i32 g n (shapev x) ∧ Below w.heap.size w w' := by
  obtain ⟨ad, rfl, _⟩ := Src.at src (j := 0) (by omega)
  have HA : Hid (∀ wr, Hp w wr [] → ∀ j, j < n → wr.cell? (ad.add j) = some (.int .i32 (x.getD j 0))) := Lib.hid fun wr H j hj => by
    obtain ⟨_, e, hc⟩ := Src.at (Src.below src H.b) (j := j) (by omega)
    cases e
    exact hc
  have CI := Lib.hid hc
  have BD := Lib.hid bd
  have SB := Lib.hid (shape_bd (B := 2147483647) (by decide) bd)
  obtain ⟨f, hf⟩ : ∃ f : Nat → Int, f = shapeAt x := ⟨_, rfl⟩
  have ef : shapev x = fillTo f n n := by rw [hf, fillTo_all]; unfold shapev; rw [hl]
  rw [ef]
  have HF : Hid (∀ i, f i = rdv 16777216 (x.getD i 0 * slope n i)) := Lib.hid fun i => by rw [hf]; unfold shapeAt; rw [hl]
  rw [← hf] at SB
  clear src hl bd hc hf ef
  have hm := mk32 n (by omega)
  have H0 : Hid (Hp w ((w.alloc (.cells #[.pointer (some ⟨c, 0, none⟩), q1, q2] 85)).alloc (.cells (madeCells #[.int .i32 0] n) 21)) [blkA w.heap.size 85 #[.pointer (some ⟨c, 0, none⟩), q1, q2], rowA 21 .i32 (w.heap.size + 1) n (fillTo f n 0)]) := Lib.hid (by
    rw [fillTo_zero]
    have h1 := ((Hp.nil w).new_blk 85 #[.pointer (some ⟨c, 0, none⟩), q1, q2]).new_row 21 .i32 n 0 (by unfold maxLen; omega)
    have h2 := h1.up1
    simpa using h2)
  go_enter Try.func51, Try.ntmps51
  go_wp2_with fail
  go_loopw [14] (fun u wr => ∃ k : Nat, k ≤ n ∧ u = .int .i64 (k : Int) ∧ Hid (Hp w wr [blkA w.heap.size 85 #[.pointer (some ⟨c, 0, none⟩), q1, q2], rowA 21 .i32 (w.heap.size + 1) n (fillTo f n k)])) (fun u _ => n - (intOf u).toNat)
  case atStart => exact ⟨0, by omega, rfl, H0⟩
  case round =>
    clear H0
    obtain ⟨k, hk, rfl, H⟩ := hrel
    by_cases hlt : k < n
    · have ik : (k : Int) < (n : Int) := by omega
      have x1 := HA.out wr (H.out.pk []) k hlt
      have b1 := BD.out k
      have fk := HF.out k
      have sb := SB.out k
      obtain ⟨r1, hr1⟩ : ∃ r, risev (k : Int) = r := ⟨_, rfl⟩
      obtain ⟨i2, hi2⟩ : ∃ i2 : Int, i2 = (n : Int) - 1 - k := ⟨_, rfl⟩
      obtain ⟨r2, hr2⟩ : ∃ r, risev i2 = r := ⟨_, rfl⟩
      have rb1 := rise_bd k
      have rb2 := rise_bd i2
      unfold slope at fk
      rw [← hi2, hr1, hr2] at fk
      rw [hr1] at rb1
      rw [hr2] at rb2
      have R1 := Lib.hid hr1
      have R2 := Lib.hid hr2
      have e1 : IntKind.i64.wrap ((n : Int) - 1) = n - 1 := wrapI64 (by omega) (by omega)
      have e2 : IntKind.i64.wrap ((n : Int) - 1 - k) = i2 := by rw [hi2]; exact wrapI64 (by omega) (by omega)
      obtain ⟨y, hy⟩ : ∃ y, x.getD k 0 = y := ⟨_, rfl⟩
      rw [hy] at x1 b1 fk
      clear hr1 hr2 hy hi2
      go_upto_region 5 with fail
      obtain ⟨m, hm2⟩ : ∃ m, (if r2 < r1 then r2 else r1) = m := ⟨_, rfl⟩
      rw [hm2] at fk
      have mb : -16777216 ≤ m ∧ m ≤ 16777216 := by rw [← hm2]; split <;> omega
      have FK := Lib.hid fk
      have SB2 := Lib.hid sb
      clear fk sb
      go_cut [6, 7, 8, 14] (fun u6 u7 u8 u14 wc => u6 = .int .i64 (k : Int) ∧ u7 = .int .i32 y ∧ u14 = .int .i64 (k : Int) ∧ u8 = .int .i64 m ∧ Hid (Hp w wc [blkA w.heap.size 85 #[.pointer (some ⟨c, 0, none⟩), q1, q2], rowA 21 .i32 (w.heap.size + 1) n (fillTo f n k)]))
      case first =>
        have wm : IntKind.i64.wrap m = m := wrapI64 (by omega) (by omega)
        refine wp_region_noPanic ?_
        refine wp_region_any (by kernel_rfl) ?_
        try (change wpAny _ _ _ _ _ _ _ (World.drew _))
        refine wpAny_of_held (S := fun w' => Hp w w' [blkA w.heap.size 85 #[.pointer (some ⟨c, 0, none⟩), q1, q2], rowA 21 .i32 (w.heap.size + 1) n (fillTo f n k)]) _ _ _ _ ?_
        have hHeld := H.out.drew
        refine wpAnyH_take (i := 0) (v := ?_) rfl (by kernel_rfl) (by kernel_rfl) (by kernel_rfl) (fun _ _ _ h => h) (Or.inl ⟨by kernel_rfl, ?_⟩) hHeld ?_
        rotate_left
        · intro w hSw
          first | (go_simp; done) | (go_simp; with_reducible rfl)
        try simp only [Act.put, List.getElem_toArray, List.getElem_cons_zero, List.getElem_cons_succ, List.setIfInBounds_toArray, List.set_cons_zero, List.set_cons_succ]
        refine wpAnyH_take (i := 1) (v := ?_) rfl (by kernel_rfl) (by kernel_rfl) (by kernel_rfl) (fun _ _ _ h => h) (Or.inl ⟨by kernel_rfl, ?_⟩) hHeld ?_
        rotate_left
        · intro w hSw
          have c0 := Blk.cell (i := 0) (v := .pointer (some ⟨c, 0, none⟩)) (Hp.blk hSw) rfl
          first | (go_simp; done) | (go_simp; with_reducible rfl)
        try simp only [Act.put, List.getElem_toArray, List.getElem_cons_zero, List.getElem_cons_succ, List.setIfInBounds_toArray, List.set_cons_zero, List.set_cons_succ]
        refine wpAnyH_take (i := 2) (v := ?_) rfl (by kernel_rfl) (by kernel_rfl) (by kernel_rfl) (fun _ _ _ h => h) (Or.inl ⟨by kernel_rfl, ?_⟩) hHeld ?_
        rotate_left
        · intro w hSw
          first | (go_simp; done) | (go_simp; with_reducible rfl)
        try simp only [Act.put, List.getElem_toArray, List.getElem_cons_zero, List.getElem_cons_succ, List.setIfInBounds_toArray, List.set_cons_zero, List.set_cons_succ]
        refine wpAnyH_take (i := 4) (v := ?_) rfl (by kernel_rfl) (by kernel_rfl) (by kernel_rfl) (fun _ _ _ h => h) (Or.inl ⟨by kernel_rfl, ?_⟩) hHeld ?_
        rotate_left
        · intro w hSw
          first | (go_simp; done) | (go_simp; with_reducible rfl)
        try simp only [Act.put, List.getElem_toArray, List.getElem_cons_zero, List.getElem_cons_succ, List.setIfInBounds_toArray, List.set_cons_zero, List.set_cons_succ]
        refine wpAnyH_take (i := 5) (v := ?_) rfl (by kernel_rfl) (by kernel_rfl) (by kernel_rfl) (fun _ _ _ h => h) (Or.inl ⟨by kernel_rfl, ?_⟩) hHeld ?_
        rotate_left
        · intro w hSw
          have c0 := Blk.cell (i := 0) (v := .pointer (some ⟨c, 0, none⟩)) (Hp.blk hSw) rfl
          first | (go_simp; done) | (go_simp; with_reducible rfl)
        try simp only [Act.put, List.getElem_toArray, List.getElem_cons_zero, List.getElem_cons_succ, List.setIfInBounds_toArray, List.set_cons_zero, List.set_cons_succ]
        refine wpAnyH_take (i := 6) (v := ?_) rfl (by kernel_rfl) (by kernel_rfl) (by kernel_rfl) (fun _ _ _ h => h) (Or.inl ⟨by kernel_rfl, ?_⟩) hHeld ?_
        rotate_left
        · intro w hSw
          first | (go_simp; done) | (go_simp; with_reducible rfl)
        try simp only [Act.put, List.getElem_toArray, List.getElem_cons_zero, List.getElem_cons_succ, List.setIfInBounds_toArray, List.set_cons_zero, List.set_cons_succ]
        refine wpAnyH_take (i := 7) (v := ?_) rfl (by kernel_rfl) (by kernel_rfl) (by kernel_rfl) (fun _ _ _ h => h) (Or.inl ⟨by kernel_rfl, ?_⟩) hHeld ?_
        rotate_left
        · intro w hSw
          first | (go_simp; done) | (go_simp; with_reducible rfl)
        try simp only [Act.put, List.getElem_toArray, List.getElem_cons_zero, List.getElem_cons_succ, List.setIfInBounds_toArray, List.set_cons_zero, List.set_cons_succ]
        refine wpAnyH_take (i := 8) (v := ?_) rfl (by kernel_rfl) (by kernel_rfl) (by kernel_rfl) (fun _ _ _ h => h) (Or.inl ⟨by kernel_rfl, ?_⟩) hHeld ?_
        rotate_left
        · intro w hSw
          first | (go_simp; done) | (go_simp; with_reducible rfl)
        try simp only [Act.put, List.getElem_toArray, List.getElem_cons_zero, List.getElem_cons_succ, List.setIfInBounds_toArray, List.set_cons_zero, List.set_cons_succ]
        refine wpAnyH_take (i := 9) (v := ?_) rfl (by kernel_rfl) (by kernel_rfl) (by kernel_rfl) (fun _ _ _ h => h) (Or.inl ⟨by kernel_rfl, ?_⟩) hHeld ?_
        rotate_left
        · intro w hSw
          first | (go_simp; done) | (go_simp; with_reducible rfl)
        try simp only [Act.put, List.getElem_toArray, List.getElem_cons_zero, List.getElem_cons_succ, List.setIfInBounds_toArray, List.set_cons_zero, List.set_cons_succ]
        refine wpAnyH_take (i := 10) (v := ?_) rfl (by kernel_rfl) (by kernel_rfl) (by kernel_rfl) (fun _ _ _ h => h) (Or.inl ⟨by kernel_rfl, ?_⟩) hHeld ?_
        rotate_left
        · intro w hSw
          first | (go_simp; done) | (go_simp; with_reducible rfl)
        try simp only [Act.put, List.getElem_toArray, List.getElem_cons_zero, List.getElem_cons_succ, List.setIfInBounds_toArray, List.set_cons_zero, List.set_cons_succ]
        refine wpAnyH_ready (rs := [3]) (by kernel_rfl) (by simp) ?_
        refine AllReadyH.cons rfl (fun K hK => ?_) AllReadyH.nil
        go_simp
        go_at_call 68
        refine (Rise_some (Blk.below CI.out (Hp.b hHeld) (Blk.lt CI.out)) _).mono ?_
        rintro e8 w8 ⟨rfl, he⟩
        subst w8
        rw [R1.out]
        go_simp
        refine hK.out _ _ (hHeld) (fun hHeld => ?_)
        clear hK K
        try simp only [Act.put, List.getElem_toArray, List.getElem_cons_zero, List.getElem_cons_succ, List.setIfInBounds_toArray, List.set_cons_zero, List.set_cons_succ]
        refine wpAnyH_ready (rs := [11]) (by kernel_rfl) (by simp) ?_
        refine AllReadyH.cons rfl (fun K hK => ?_) AllReadyH.nil
        go_simp
        go_at_call 68
        refine (Rise_some (Blk.below CI.out (Hp.b hHeld) (Blk.lt CI.out)) _).mono ?_
        rintro e8 w8 ⟨rfl, he⟩
        subst w8
        rw [R2.out]
        go_simp
        refine hK.out _ _ (hHeld) (fun hHeld => ?_)
        clear hK K
        try simp only [Act.put, List.getElem_toArray, List.getElem_cons_zero, List.getElem_cons_succ, List.setIfInBounds_toArray, List.set_cons_zero, List.set_cons_succ]
        refine wpAnyH_take (i := 12) (v := ?_) rfl (by kernel_rfl) (by kernel_rfl) (by kernel_rfl) (fun _ _ _ h => h) (Or.inl ⟨by kernel_rfl, ?_⟩) hHeld ?_
        rotate_left
        · intro w hSw
          first | (go_simp; done) | (go_simp; with_reducible rfl)
        try simp only [Act.put, List.getElem_toArray, List.getElem_cons_zero, List.getElem_cons_succ, List.setIfInBounds_toArray, List.set_cons_zero, List.set_cons_succ]
        refine wpAnyH_take (i := 13) (v := ?_) rfl (by kernel_rfl) (by kernel_rfl) (by kernel_rfl) (fun _ _ _ h => h) (Or.inl ⟨by kernel_rfl, ?_⟩) hHeld ?_
        rotate_left
        · intro w hSw
          first | (go_simp; done) | (go_simp; with_reducible rfl)
        try simp only [Act.put, List.getElem_toArray, List.getElem_cons_zero, List.getElem_cons_succ, List.setIfInBounds_toArray, List.set_cons_zero, List.set_cons_succ]
        refine wpAnyH_take (i := 14) (v := ?_) rfl (by kernel_rfl) (by kernel_rfl) (by kernel_rfl) (fun _ _ _ h => h) (Or.inl ⟨by kernel_rfl, ?_⟩) hHeld ?_
        rotate_left
        · intro w hSw
          first | (go_simp; done) | (go_simp; with_reducible rfl)
        try simp only [Act.put, List.getElem_toArray, List.getElem_cons_zero, List.getElem_cons_succ, List.setIfInBounds_toArray, List.set_cons_zero, List.set_cons_succ]
        refine wpAnyH_done (by kernel_rfl) ?_ _
        refine NoPanic.normal ?_
        have HH := Lib.hid hHeld
        clear hHeld
        go_wp2_with fail
        go_meet
        exact ⟨rfl, rfl, rfl, rfl, HH⟩
      case rest =>
        obtain ⟨rfl, rfl, rfl, rfl, H'⟩ := hcut
        clear H R1 R2 e1 e2 hm2 rb1 rb2 x1
        obtain ⟨P, hP⟩ : ∃ P, y * m = P := ⟨_, rfl⟩
        have pb := mul_bd (x := y) (y := m) (B := 2147483647) (C := 16777216) (by decide) (by decide) b1 mb
        have fk := FK.out
        rw [hP] at pb fk
        obtain ⟨z, hz⟩ : ∃ z, rdv 16777216 P = z := ⟨_, rfl⟩
        have sb := SB2.out
        rw [fk, hz] at sb
        have RZ := Lib.hid hz
        have p1 : wrap64 (y * m) = P := by rw [hP]; unfold wrap64; omega
        have P1 := Lib.hid p1
        have FKZ := Lib.hid fk
        clear fk hz FK SB2 p1
        go_wp2_with fail
        refine (Round24 P (by omega) (by omega) _).mono ?_
        rintro e4 w4 ⟨rfl, q, rfl⟩
        have hs := (H'.out.drewN q).up1.set k (f k)
        rw [fillTo_set, FKZ.out, RZ.out] at hs
        have HS := Lib.hid hs.up1
        have fr := (H'.out.drewN q).up1.row.free k
        have fc := (H'.out.drewN q).up1.row.cell (i := k) (by rw [fillTo_len]; omega)
        rw [fillTo_at] at fc
        rw [RZ.out]
        clear hs RZ FKZ
        go_wp2_with fail
        go_roundw
        case rel => exact ⟨k + 1, by omega, by go_num, HS⟩
        case measure => simp [intOf]; omega
    · obtain rfl : k = n := by omega
      go_wp2_with fail
      go_ret
      exact ⟨_, rfl, by omega, H.out.up1.row, H.out.b⟩
end Go.Proofs.Ytngldpeapcbbpaa.Lap

/-
  Law 8: LappedBack, LappedLines and LappedAgain; walks. No condition.
-/
set_option linter.unusedVariables false
set_option linter.unusedSimpArgs false
namespace Go.Proofs.Ytngldpeapcbbpaa.Lap
open Go.RowKit Go.Proofs.Ytngldpeapcbbpaa Go.Proofs.Ytngldpeapcbbpaa.Bnd Go.Proofs.Ytngldpeapcbbpaa.Art Go.Proofs.YtngldpeapcbbpaaW.PrintWords

def oneLine : List Int := (List.replicate 128 (0 : Int)).set 3 1048576
theorem one_sounds : (backv 128 4 134217728 oneLine).getD 0 0 = rdv 134217728 (dot 4 (fun j => oneLine.getD j 0) 128 64) := by
  unfold backv unfv
  have h : ((List.range (2 * 128)).map (unfAt 128 (turnv 128 4 134217728 oneLine))).getD 0 0 = unfAt 128 (turnv 128 4 134217728 oneLine) 0 := by simp [List.getD]
  rw [h]
  unfold unfAt
  rw [if_pos (by decide), turnv_at _ _ _ _ _ (by decide)]
theorem one_loud : rdv 134217728 (dot 4 (fun j => oneLine.getD j 0) 128 64) ≠ 0 := by decide +kernel
theorem one_in : within 33554432 oneLine = true := by decide +kernel
theorem one_len : oneLine.length = 128 := by decide +kernel
theorem backv_len (n un : Nat) (D : Int) (x : List Int) : (backv n un D x).length = 2 * n := by simp [backv, unfv]
theorem fwdv_len (n un : Nat) (D : Int) (x : List Int) : (fwdv n un D x).length = n := by simp [fwdv, turnv_len]
theorem fwdv_at {n un : Nat} {D : Int} {x : List Int} {j : Nat} (h : j < n) : (fwdv n un D x).getD j 0 = clampv (-33554432) 33554431 (rdv D (dot un (fun j => (foldv n x).getD j 0) n j)) := by
  unfold fwdv
  rw [← turnv_at n un D (foldv n x) j h]
  simp [List.getD, List.getElem?_map, turnv_len, h]
theorem fwdv_within (n un : Nat) (D : Int) (x : List Int) : within 33554432 (fwdv n un D x) = true := by
  unfold within fwdv
  rw [List.all_eq_true]
  intro y hy
  obtain ⟨z, _, rfl⟩ := List.mem_map.1 hy
  have := clamp_bd (a := -33554432) (b := 33554431) (by decide) z
  simp
  omega
theorem fold_bd20 {n : Nat} {x : List Int} (h : ∀ j, -524288 < x.getD j 0 ∧ x.getD j 0 < 524288) (j : Nat) : -1048574 ≤ (foldv n x).getD j 0 ∧ (foldv n x).getD j 0 ≤ 1048574 := by
  by_cases hj : j < n
  · have e : (foldv n x).getD j 0 = foldAt n x j := by simp [foldv, List.getD, hj]
    rw [e]
    unfold foldAt
    split
    · have a := h (3 * (n / 2) - 1 - j)
      have b := h (3 * (n / 2) + j)
      omega
    · have a := h (j - n / 2)
      have b := h (n - 1 - (j - n / 2))
      omega
  · have e : (foldv n x).getD j 0 = 0 := by simp [foldv, List.getD, hj]
    rw [e]
    omega
theorem unf_near {n : Nat} (hn : n = 512 ∨ n = 128) {T U : List Int} {e : Int} (he : 0 ≤ e) (h : ∀ k, k < n → -e ≤ T.getD k 0 - U.getD k 0 ∧ T.getD k 0 - U.getD k 0 ≤ e) (i : Nat) (hi : i < 2 * n) : -e ≤ (unfv n T).getD i 0 - (unfv n U).getD i 0 ∧ (unfv n T).getD i 0 - (unfv n U).getD i 0 ≤ e := by
  have e1 : (unfv n T).getD i 0 = unfAt n T i := by simp [unfv, List.getD, hi]
  have e2 : (unfv n U).getD i 0 = unfAt n U i := by simp [unfv, List.getD, hi]
  rw [e1, e2]
  unfold unfAt
  split
  · exact h _ (by omega)
  · split
    · have := h (n / 2 + (n - 1 - i)) (by omega); omega
    · split
      · have := h (3 * (n / 2) - 1 - i) (by omega); omega
      · have := h (i - 3 * (n / 2)) (by omega); omega
theorem again512 {x : List Int} (hx : ∀ j, -524288 < x.getD j 0 ∧ x.getD j 0 < 524288) (i : Nat) (hi : i < 1024) : -1100 ≤ (backv 512 1 268435456 (fwdv 512 1 268435456 x)).getD i 0 - (unfv 512 (foldv 512 x)).getD i 0 ∧ (backv 512 1 268435456 (fwdv 512 1 268435456 x)).getD i 0 - (unfv 512 (foldv 512 x)).getD i 0 ≤ 1100 := by
  have ub := fold_bd20 (n := 512) hx
  unfold backv
  refine unf_near (by omega) (by decide) (fun k hk => ?_) i hi
  rw [turnv_at _ _ _ _ _ hk]
  refine twice512 (fun j => (foldv 512 x).getD j 0) (fun j => (fwdv 512 1 268435456 x).getD j 0) (fun k => rdv 268435456 (dot 1 (fun j => (fwdv 512 1 268435456 x).getD j 0) 512 k)) (fun j _ => by have := ub j; omega) (fun i hi => ?_) (fun k _ => rfl) k hk
  rw [fwdv_at hi]
  have b := dot_bd (un := 1) (n := 512) (k := i) (B := 1048574) (by decide) ub
  generalize dot 1 (fun j => (foldv 512 x).getD j 0) 512 i = S at b ⊢
  exact clamp_in (by unfold rdv; omega) (by unfold rdv; omega)
theorem again128 {x : List Int} (hx : ∀ j, -524288 < x.getD j 0 ∧ x.getD j 0 < 524288) (i : Nat) (hi : i < 256) : -1100 ≤ (backv 128 4 134217728 (fwdv 128 4 134217728 x)).getD i 0 - (unfv 128 (foldv 128 x)).getD i 0 ∧ (backv 128 4 134217728 (fwdv 128 4 134217728 x)).getD i 0 - (unfv 128 (foldv 128 x)).getD i 0 ≤ 1100 := by
  have ub := fold_bd20 (n := 128) hx
  unfold backv
  refine unf_near (by omega) (by decide) (fun k hk => ?_) i hi
  rw [turnv_at _ _ _ _ _ hk]
  refine twice128 (fun j => (foldv 128 x).getD j 0) (fun j => (fwdv 128 4 134217728 x).getD j 0) (fun k => rdv 134217728 (dot 4 (fun j => (fwdv 128 4 134217728 x).getD j 0) 128 k)) (fun j _ => by have := ub j; omega) (fun i hi => ?_) (fun k _ => rfl) k hk
  rw [fwdv_at hi]
  have b := dot_bd (un := 4) (n := 128) (k := i) (B := 1048574) (by decide) ub
  generalize dot 4 (fun j => (foldv 128 x).getD j 0) 128 i = S at b ⊢
  exact clamp_in (by unfold rdv; omega) (by unfold rdv; omega)
theorem backv_b512 {x : List Int} (h : ∀ j, -33554432 ≤ x.getD j 0 ∧ x.getD j 0 < 33554432) (i : Nat) : -2147483648 ≤ (backv 512 1 268435456 x).getD i 0 ∧ (backv 512 1 268435456 x).getD i 0 ≤ 2147483647 := by
  have tb := turn_bd512 (ys := x) (fun j => by have := h j; omega)
  by_cases hi : i < 2 * 512
  · have e : (backv 512 1 268435456 x).getD i 0 = unfAt 512 (turnv 512 1 268435456 x) i := by unfold backv unfv; rw [List.getD_eq_getElem?_getD, List.getElem?_map, List.getElem?_range hi]; rfl
    rw [e]
    unfold unfAt
    split
    · have := tb (512 / 2 + i); omega
    · split
      · have := tb (512 / 2 + (512 - 1 - i)); omega
      · split
        · have := tb (3 * (512 / 2) - 1 - i); omega
        · have := tb (i - 3 * (512 / 2)); omega
  · rw [List.getD_eq_getElem?_getD, List.getElem?_eq_none (by rw [backv_len]; omega)]
    decide
theorem fwdv_b512 {x : List Int} (h : ∀ j, -1048576 ≤ x.getD j 0 ∧ x.getD j 0 < 1048576) (i : Nat) : -2147483648 ≤ (fwdv 512 1 268435456 x).getD i 0 ∧ (fwdv 512 1 268435456 x).getD i 0 ≤ 2147483647 := by
  have := within_at (fwdv_within 512 1 268435456 x) (by decide) i
  omega
theorem backv_b128 {x : List Int} (h : ∀ j, -33554432 ≤ x.getD j 0 ∧ x.getD j 0 < 33554432) (i : Nat) : -2147483648 ≤ (backv 128 4 134217728 x).getD i 0 ∧ (backv 128 4 134217728 x).getD i 0 ≤ 2147483647 := by
  have tb := turn_bd128 (ys := x) (fun j => by have := h j; omega)
  by_cases hi : i < 2 * 128
  · have e : (backv 128 4 134217728 x).getD i 0 = unfAt 128 (turnv 128 4 134217728 x) i := by unfold backv unfv; rw [List.getD_eq_getElem?_getD, List.getElem?_map, List.getElem?_range hi]; rfl
    rw [e]
    unfold unfAt
    split
    · have := tb (128 / 2 + i); omega
    · split
      · have := tb (128 / 2 + (128 - 1 - i)); omega
      · split
        · have := tb (3 * (128 / 2) - 1 - i); omega
        · have := tb (i - 3 * (128 / 2)); omega
  · rw [List.getD_eq_getElem?_getD, List.getElem?_eq_none (by rw [backv_len]; omega)]
    decide
theorem fwdv_b128 {x : List Int} (h : ∀ j, -1048576 ≤ x.getD j 0 ∧ x.getD j 0 < 1048576) (i : Nat) : -2147483648 ≤ (fwdv 128 4 134217728 x).getD i 0 ∧ (fwdv 128 4 134217728 x).getD i 0 ≤ 2147483647 := by
  have := within_at (fwdv_within 128 4 134217728 x) (by decide) i
  omega
attribute [local irreducible] cosv wgt qt QT oneLine turnv backv fwdv fillv
theorem New_h {W w : World} {l : List Ast} (H : Hp W w l) : Calls Try.prog 16 #[] w fun e w' => ∃ g, e = .returned (.pointer (some ⟨g, 0, none⟩)) ∧ Hp W w' l ∧ Circ w' g := by
  refine (New_calls w).mono ?_
  rintro e w' ⟨g, hg, rfl, hb, b⟩
  exact ⟨g, rfl, H.keep b, hb⟩
set_option maxHeartbeats 1000000 in
set_option maxRecDepth 100000 in
theorem lives_calls (w : World) : Calls Try.prog 13 #[] w fun e w' => e = .returned (.bool true) ∧ Below w.heap.size w w' := by
  have hm := mk32 128 (by decide)
  rw [show ((128 : Nat) : Int) = 128 from rfl] at hm
  go_enter Try.func13, Try.ntmps13
  go_wp2_with fail
  refine (New_h (Hp.nil w)).mono ?_
  rintro e1 w1 ⟨g, rfl, h1, hc⟩
  have H1 := Lib.hid h1
  have HC := Lib.hid hc
  clear h1 hc
  go_wp2_with fail
  refine (New_yes HC.out 128 4 27 (.inl ⟨rfl, rfl, rfl⟩)).mono ?_
  rintro e2 w2 ⟨t, rfl, ht, hl, b2⟩
  have H2 := Lib.hid (H1.out.keep b2)
  have HL := Lib.hid hl
  have tl := hl.blk.lt
  clear hl b2 HC H1 ht
  have H3 := Lib.hid (H2.out.new_row 21 .i32 128 0 (by decide))
  have B3 : Hid (Below w2.heap.size w2 (w2.alloc (.cells (madeCells #[.int .i32 0] 128) 21))) := Lib.hid ((Below.refl _ _).alloc (Nat.le_refl _) _)
  have K1 := Lib.hid one_in
  go_upto_region 2 with fail
  go_cut [3] (fun u wc => u = .slice (some ⟨w2.heap.size, 0, none⟩) 128 128 ∧ Hid (Hp w wc [rowA 21 .i32 w2.heap.size 128 (List.replicate 128 0)]) ∧ Hid (Below w2.heap.size w2 wc))
  case first =>
    go_wp2
    go_meet
    exact ⟨rfl, H3, B3⟩
  case rest =>
    clear H3 B3
    obtain ⟨rfl, H3, B3⟩ := hcut
    have fr := H3.out.row.free 3
    have fc := H3.out.row.cell (i := 3) (by simp)
    have h4 := H3.out.set 3 1048576
    rw [show (List.replicate 128 (0 : Int)).set 3 1048576 = oneLine by unfold oneLine; rfl] at h4
    have H4 := Lib.hid h4
    have B4 : Hid (Below w2.heap.size w2 (wc.setCell ⟨w2.heap.size, 3, none⟩ (.int .i32 1048576))) := Lib.hid (B3.out.setCell (Nat.le_refl _) _)
    clear h4
    go_wp2_with fail
    refine (Back128 (HL.out.below B4.out) (by have := Src.of_sl (Sl.row H4.out.row); rw [one_len] at this; exact this) one_len K1.out).mono ?_
    rintro e3 w3 ⟨g3, rfl, hg3, hr3, b3⟩
    have c0 := hr3.cell (i := 0) (by rw [backv_len]; decide)
    have ev : (backv 128 4 134217728 oneLine)[0]'(by rw [backv_len]; decide) = (backv 128 4 134217728 oneLine).getD 0 0 := by
      rw [List.getD_eq_getElem?_getD, List.getElem?_eq_getElem (by rw [backv_len]; decide)]; rfl
    rw [ev, one_sounds] at c0
    have nz := one_loud
    obtain ⟨y, hy⟩ : ∃ y, rdv 134217728 (dot 4 (fun j => oneLine.getD j 0) 128 64) = y := ⟨_, rfl⟩
    rw [hy] at c0 nz
    have n1 : (y == 0) = false := by rw [beq_eq_false_iff_ne]; exact nz
    have n2 : (y != 0) = true := by rw [bne, n1]; rfl
    have B5 := Lib.hid (H4.out.b.trans (b3.mono (H4.out.size)))
    clear hy ev hr3 b3
    go_wp2_with fail
    go_ret
    exact ⟨rfl, B5.out⟩
/-- A circle, and a transform over it, as objects. -/
abbrev circA (g : Nat) : Ast := blkA g 77 (vals .i32 (fillTo cv 4096 4096))
abbrev lapA (t c : Nat) (n un b : Int) : Ast := blkA t 74 #[.pointer (some ⟨c, 0, none⟩), .int .i64 n, .int .i64 un, .int .i64 b]
theorem Hp_lap {W w : World} {l : List Ast} {t c : Nat} {n un b : Int} (H : Hp W w (lapA t c n un b :: circA c :: l)) : IsLap w t c n un b := ⟨H.blk, H.drop.blk⟩
theorem Circ_h {W w : World} {l : List Ast} (H : Hp W w l) : Calls Try.prog 16 #[] w fun e w' => ∃ g, e = .returned (.pointer (some ⟨g, 0, none⟩)) ∧ Hp W w' (circA g :: l) := by
  refine (New_calls w).mono ?_
  rintro e w' ⟨g, hg, rfl, hb, b⟩
  exact ⟨g, rfl, H.new b (A' := circA g) ⟨hb, rfl⟩ (fun k hk => by subst hk; exact hg)⟩
theorem Lap_h {W w : World} {l : List Ast} {c : Nat} (H : Hp W w (circA c :: l)) (n un b : Int) (hn : (n = 128 ∧ un = 4 ∧ b = 27) ∨ (n = 512 ∧ un = 1 ∧ b = 28)) : Calls Try.prog 15 #[.int .i64 n, .pointer (some ⟨c, 0, none⟩)] w fun e w' => ∃ t, e = .returned (.tuple #[.pointer (some ⟨t, 0, none⟩), .int .i64 0]) ∧ Hp W w' (lapA t c n un b :: circA c :: l) := by
  refine (New_yes H.blk n un b hn).mono ?_
  rintro e w' ⟨t, rfl, ht, h, hb⟩
  exact ⟨t, rfl, H.new hb (A' := lapA t c n un b) ⟨h.blk, rfl⟩ (fun k hk => by subst hk; exact ht)⟩
theorem Quarter_h {W w : World} {l : List Ast} (H : Hp W w l) : Calls Try.prog 21 #[] w fun e w' => ∃ g cap, e = .returned (.slice (some ⟨g, 0, none⟩) 1025 cap) ∧ w.heap.size ≤ g ∧ Hp W w' (rowA 2 .i64 g cap QT :: l) := by
  refine (quarter_row' w).mono ?_
  rintro e w' ⟨g, cap, rfl, hg, hr, hb⟩
  exact ⟨g, cap, by rw [QT_length], hg, H.add_row hb hr hg⟩
theorem i32_bd {W : World} {a0 : Option Addr} {len0 cap0 : Nat} {z0 : List Int} (h : IsRow .i32 W a0 len0 cap0 z0) (j : Nat) : -2147483648 ≤ (z0.take len0).getD j 0 ∧ (z0.take len0).getD j 0 ≤ 2147483647 := by
  by_cases hj : j < (z0.take len0).length
  · have := h.wf _ (List.getElem_mem hj)
    simp only [Lit.wf, Bool.and_eq_true, decide_eq_true_eq] at this
    have e1 : IntKind.min .i32 = -2147483648 := by decide
    have e2 : IntKind.max .i32 = 2147483647 := by decide
    rw [e1, e2] at this
    rw [List.getD_eq_getElem?_getD, List.getElem?_eq_getElem hj]
    exact this
  · rw [List.getD_eq_getElem?_getD, List.getElem?_eq_none (by omega)]
    decide
set_option maxHeartbeats 2000000 in
set_option maxRecDepth 100000 in
theorem back_law (a0 : Option Addr) (len0 cap0 : Nat) (z0 : List Int) (b : Bool) (W : World) (h0 : IsRow .i32 W a0 len0 cap0 z0) (y0 : len0 * 4 ≤ 140737488351232) :
    Calls Try.prog 3 #[.slice a0 len0 cap0, .bool b] W fun e w' => e = .returned (.bool true) ∧ Below W.heap.size W w' := by
  by_cases hs : 2000 < len0
  · have k1 : decide ((2000 : Int) < (len0 : Int)) = true := decide_eq_true (by omega)
    go_enter Try.func3, Try.ntmps3
    go_wp2_with fail
    refine (lives_calls _).mono ?_
    rintro e1 w1 ⟨rfl, b1⟩
    have H1 : Hid (Hp W w1 []) := Lib.hid ((Hp.nil W).keep b1)
    clear b1
    go_wp2_with fail
    refine (lives_calls _).mono ?_
    rintro e2 w2 ⟨rfl, b2⟩
    have H2 := Lib.hid (H1.out.keep b2)
    clear b2
    go_wp2_with fail
    go_ret
    exact ⟨rfl, H2.out.b⟩
  have k1 : decide ((2000 : Int) < (len0 : Int)) = false := decide_eq_false (by omega)
  have RD := Lib.hid h0.src
  have LN := Lib.hid h0.take_len
  have B32 := Lib.hid (i32_bd h0)
  clear h0 y0
  generalize z0.take len0 = ys at *
  cases b
  · go_enter Try.func3, Try.ntmps3
    go_wp2_with fail
    refine (lives_calls _).mono ?_
    rintro e1 w1 ⟨rfl, b1⟩
    have H1 : Hid (Hp W w1 []) := Lib.hid ((Hp.nil W).keep b1)
    clear b1
    go_wp2_with fail
    refine (size_calls false _).mono ?_
    rintro e2 w2 ⟨rfl, he⟩
    subst w2
    rw [show (if false = true then (512 : Int) else 128) = 128 from rfl]
    go_wp2_with fail
    refine (Circ_h H1.out).mono ?_
    rintro e2 w2 ⟨g, rfl, h2⟩
    have H2 := Lib.hid h2
    clear h2 H1
    go_wp2_with fail
    refine (Lap_h H2.out 128 4 27 (.inl ⟨rfl, rfl, rfl⟩)).mono ?_
    rintro e3 w3 ⟨t, rfl, h3⟩
    have H3 := Lib.hid h3
    clear h3 H2
    go_wp2_with fail
    refine (fill26 H3.out (Rd.arg RD.out) LN.out (by omega) B32.out 128 (by decide)).mono ?_
    rintro e4 w4 ⟨v1, v2, rfl, h4⟩
    obtain ⟨X, hX⟩ : ∃ X, fillv ys 33554432 128 = X := ⟨_, rfl⟩
    have xl : X.length = 128 := by rw [← hX]; exact fillv_len _ _ _
    have xw : within 33554432 X = true := by rw [← hX]; exact fillv_within ys (by decide) _
    have xb : ∀ j, -33554432 ≤ X.getD j 0 ∧ X.getD j 0 < 33554432 := within_at xw (by decide)
    rw [hX] at h4
    obtain ⟨A1, c1, rfl, _⟩ := h4.sl.form
    obtain ⟨A2, c2, rfl, _⟩ := h4.up1.sl.form
    rw [xl] at h4
    have H4 := Lib.hid h4
    have XL := Lib.hid xl
    have XW := Lib.hid xw
    have XB := Lib.hid xb
    clear hX h4 H3 xl xw xb
    rw [XL.out]
    have S0 := Lib.hid (Sl_empty w4 21 .i32)
    have S1 : Hid (Src (w4.alloc (.cells #[] 21)) .i32 (.slice A1 128 c1) X) := Lib.hid (Src.of_sl (H4.out.alloc _).sl)
    have XC : Hid (X.length ≤ 2000) := Lib.hid (by rw [XL.out]; decide)
    go_wp2_with (at_builtin; refine wpList_add (.tmp 35) (.tmp 36) 22 21 .i32 0 4 rfl rfl Try.underlying22 info_i32 _ _ [] X rfl rfl S0.out S1.out (by have := XC.out; simp; omega) (by have := XC.out; simp; omega) ?_
                 intro v5 w5 hp
                 have bf := added_fresh hp
                 have sl5 := hp.sl
                 rw [List.nil_append] at sl5
                 have h5 := H4.out.add_sl bf.1 sl5 bf.2
                 obtain ⟨A5, c5, rfl, _⟩ := h5.sl.form
                 have H5 := Lib.hid h5
                 clear hp bf h5 sl5 S0 S1)
    rw [XL.out]
    rw [XL.out] at H5
    refine (Back128 (Hp_lap (H5.out.pk [3, 3])) (Src.of_sl H5.out.sl) XL.out XW.out).mono ?_
    rintro e6 w6 ⟨g6, rfl, hg6, hr6, b6⟩
    have H6 := Lib.hid (H5.out.add_row b6 hr6 hg6)
    clear hg6 hr6 b6 H4
    go_wp2_with fail
    refine (Quarter_h H6.out).mono ?_
    rintro e7 w7 ⟨g7, c7, rfl, hg7, h7⟩
    have H7 := Lib.hid h7
    clear h7 H6 hg7
    go_wp2_with fail
    refine (rBack128 (by have := Src.of_sl (Sl.row H7.out.row); rw [QT_length] at this; exact this) (Src.of_sl H7.out.up4.sl) XL.out XB.out).mono ?_
    rintro e8 w8 ⟨g8, rfl, hg8, hr8, b8⟩
    have H8 := Lib.hid (H7.out.add_row b8 hr8 hg8)
    clear hg8 hr8 b8 H7
    have RB := Lib.hid (backv_b128 (x := X) XB.out)
    have RL : Hid ((backv 128 4 134217728 X).length = 256) := Lib.hid (by rw [backv_len])
    go_wp2_with fail
    refine (same_yes (by have := Src.of_sl (Sl.row H8.out.up2.row); rw [RL.out] at this; exact this) (by have := Src.of_sl (Sl.row H8.out.row); rw [RL.out] at this; exact this) RL.out (by decide) RB.out).mono ?_
    rintro e9 w9 ⟨rfl, q9, rfl⟩
    have H9 := Lib.hid (H8.out.drewN q9)
    clear H8
    go_wp2_with fail
    refine (same_yes (Src.of_sl H9.out.up3.sl) (Src.of_sl H9.out.up5.sl) XL.out (by decide) (fun j => by have := XB.out j; omega)).mono ?_
    rintro e10 w10 ⟨rfl, q10, rfl⟩
    have H10 := Lib.hid (H9.out.drewN q10)
    clear H9
    have hb := H10.out.b
    rw [World.drewN_drewN] at hb
    have HB := Lib.hid hb
    clear hb
    go_wp2_with fail
    go_ret
    exact ⟨rfl, HB.out⟩
  · go_enter Try.func3, Try.ntmps3
    go_wp2_with fail
    refine (lives_calls _).mono ?_
    rintro e1 w1 ⟨rfl, b1⟩
    have H1 : Hid (Hp W w1 []) := Lib.hid ((Hp.nil W).keep b1)
    clear b1
    go_wp2_with fail
    refine (size_calls true _).mono ?_
    rintro e2 w2 ⟨rfl, he⟩
    subst w2
    rw [show (if true = true then (512 : Int) else 128) = 512 from rfl]
    go_wp2_with fail
    refine (Circ_h H1.out).mono ?_
    rintro e2 w2 ⟨g, rfl, h2⟩
    have H2 := Lib.hid h2
    clear h2 H1
    go_wp2_with fail
    refine (Lap_h H2.out 512 1 28 (.inr ⟨rfl, rfl, rfl⟩)).mono ?_
    rintro e3 w3 ⟨t, rfl, h3⟩
    have H3 := Lib.hid h3
    clear h3 H2
    go_wp2_with fail
    refine (fill26 H3.out (Rd.arg RD.out) LN.out (by omega) B32.out 512 (by decide)).mono ?_
    rintro e4 w4 ⟨v1, v2, rfl, h4⟩
    obtain ⟨X, hX⟩ : ∃ X, fillv ys 33554432 512 = X := ⟨_, rfl⟩
    have xl : X.length = 512 := by rw [← hX]; exact fillv_len _ _ _
    have xw : within 33554432 X = true := by rw [← hX]; exact fillv_within ys (by decide) _
    have xb : ∀ j, -33554432 ≤ X.getD j 0 ∧ X.getD j 0 < 33554432 := within_at xw (by decide)
    rw [hX] at h4
    obtain ⟨A1, c1, rfl, _⟩ := h4.sl.form
    obtain ⟨A2, c2, rfl, _⟩ := h4.up1.sl.form
    rw [xl] at h4
    have H4 := Lib.hid h4
    have XL := Lib.hid xl
    have XW := Lib.hid xw
    have XB := Lib.hid xb
    clear hX h4 H3 xl xw xb
    rw [XL.out]
    have S0 := Lib.hid (Sl_empty w4 21 .i32)
    have S1 : Hid (Src (w4.alloc (.cells #[] 21)) .i32 (.slice A1 512 c1) X) := Lib.hid (Src.of_sl (H4.out.alloc _).sl)
    have XC : Hid (X.length ≤ 2000) := Lib.hid (by rw [XL.out]; decide)
    go_wp2_with (at_builtin; refine wpList_add (.tmp 35) (.tmp 36) 22 21 .i32 0 4 rfl rfl Try.underlying22 info_i32 _ _ [] X rfl rfl S0.out S1.out (by have := XC.out; simp; omega) (by have := XC.out; simp; omega) ?_
                 intro v5 w5 hp
                 have bf := added_fresh hp
                 have sl5 := hp.sl
                 rw [List.nil_append] at sl5
                 have h5 := H4.out.add_sl bf.1 sl5 bf.2
                 obtain ⟨A5, c5, rfl, _⟩ := h5.sl.form
                 have H5 := Lib.hid h5
                 clear hp bf h5 sl5 S0 S1)
    rw [XL.out]
    rw [XL.out] at H5
    refine (Back512 (Hp_lap (H5.out.pk [3, 3])) (Src.of_sl H5.out.sl) XL.out XW.out).mono ?_
    rintro e6 w6 ⟨g6, rfl, hg6, hr6, b6⟩
    have H6 := Lib.hid (H5.out.add_row b6 hr6 hg6)
    clear hg6 hr6 b6 H4
    go_wp2_with fail
    refine (Quarter_h H6.out).mono ?_
    rintro e7 w7 ⟨g7, c7, rfl, hg7, h7⟩
    have H7 := Lib.hid h7
    clear h7 H6 hg7
    go_wp2_with fail
    refine (rBack512 (by have := Src.of_sl (Sl.row H7.out.row); rw [QT_length] at this; exact this) (Src.of_sl H7.out.up4.sl) XL.out XB.out).mono ?_
    rintro e8 w8 ⟨g8, rfl, hg8, hr8, b8⟩
    have H8 := Lib.hid (H7.out.add_row b8 hr8 hg8)
    clear hg8 hr8 b8 H7
    have RB := Lib.hid (backv_b512 (x := X) XB.out)
    have RL : Hid ((backv 512 1 268435456 X).length = 1024) := Lib.hid (by rw [backv_len])
    go_wp2_with fail
    refine (same_yes (by have := Src.of_sl (Sl.row H8.out.up2.row); rw [RL.out] at this; exact this) (by have := Src.of_sl (Sl.row H8.out.row); rw [RL.out] at this; exact this) RL.out (by decide) RB.out).mono ?_
    rintro e9 w9 ⟨rfl, q9, rfl⟩
    have H9 := Lib.hid (H8.out.drewN q9)
    clear H8
    go_wp2_with fail
    refine (same_yes (Src.of_sl H9.out.up3.sl) (Src.of_sl H9.out.up5.sl) XL.out (by decide) (fun j => by have := XB.out j; omega)).mono ?_
    rintro e10 w10 ⟨rfl, q10, rfl⟩
    have H10 := Lib.hid (H9.out.drewN q10)
    clear H9
    have hb := H10.out.b
    rw [World.drewN_drewN] at hb
    have HB := Lib.hid hb
    clear hb
    go_wp2_with fail
    go_ret
    exact ⟨rfl, HB.out⟩
set_option maxHeartbeats 2000000 in
set_option maxRecDepth 100000 in
theorem lines_law (a0 : Option Addr) (len0 cap0 : Nat) (z0 : List Int) (b : Bool) (W : World) (h0 : IsRow .i32 W a0 len0 cap0 z0) (y0 : len0 * 4 ≤ 140737488351232) :
    Calls Try.prog 4 #[.slice a0 len0 cap0, .bool b] W fun e w' => e = .returned (.bool true) ∧ Below W.heap.size W w' := by
  by_cases hs : 2000 < len0
  · have k1 : decide ((2000 : Int) < (len0 : Int)) = true := decide_eq_true (by omega)
    go_enter Try.func4, Try.ntmps4
    go_wp2_with fail
    refine (lives_calls _).mono ?_
    rintro e1 w1 ⟨rfl, b1⟩
    have H1 : Hid (Hp W w1 []) := Lib.hid ((Hp.nil W).keep b1)
    clear b1
    go_wp2_with fail
    refine (lives_calls _).mono ?_
    rintro e2 w2 ⟨rfl, b2⟩
    have H2 := Lib.hid (H1.out.keep b2)
    clear b2
    go_wp2_with fail
    go_ret
    exact ⟨rfl, H2.out.b⟩
  have k1 : decide ((2000 : Int) < (len0 : Int)) = false := decide_eq_false (by omega)
  have RD := Lib.hid h0.src
  have LN := Lib.hid h0.take_len
  have B32 := Lib.hid (i32_bd h0)
  clear h0 y0
  generalize z0.take len0 = ys at *
  cases b
  · go_enter Try.func4, Try.ntmps4
    go_wp2_with fail
    refine (lives_calls _).mono ?_
    rintro e1 w1 ⟨rfl, b1⟩
    have H1 : Hid (Hp W w1 []) := Lib.hid ((Hp.nil W).keep b1)
    clear b1
    go_wp2_with fail
    refine (size_calls false _).mono ?_
    rintro e2 w2 ⟨rfl, he⟩
    subst w2
    rw [show (if false = true then (512 : Int) else 128) = 128 from rfl]
    go_wp2_with fail
    refine (Circ_h H1.out).mono ?_
    rintro e2 w2 ⟨g, rfl, h2⟩
    have H2 := Lib.hid h2
    clear h2 H1
    go_wp2_with fail
    refine (Lap_h H2.out 128 4 27 (.inl ⟨rfl, rfl, rfl⟩)).mono ?_
    rintro e3 w3 ⟨t, rfl, h3⟩
    have H3 := Lib.hid h3
    clear h3 H2
    go_wp2_with fail
    refine (fill21 H3.out (Rd.arg RD.out) LN.out (by omega) B32.out 256 (by decide)).mono ?_
    rintro e4 w4 ⟨v1, v2, rfl, h4⟩
    obtain ⟨X, hX⟩ : ∃ X, fillv ys 1048576 256 = X := ⟨_, rfl⟩
    have xl : X.length = 256 := by rw [← hX]; exact fillv_len _ _ _
    have xw : within 1048576 X = true := by rw [← hX]; exact fillv_within ys (by decide) _
    have xb : ∀ j, -1048576 ≤ X.getD j 0 ∧ X.getD j 0 < 1048576 := within_at xw (by decide)
    rw [hX] at h4
    obtain ⟨A1, c1, rfl, _⟩ := h4.sl.form
    obtain ⟨A2, c2, rfl, _⟩ := h4.up1.sl.form
    rw [xl] at h4
    have H4 := Lib.hid h4
    have XL := Lib.hid xl
    have XW := Lib.hid xw
    have XB := Lib.hid xb
    clear hX h4 H3 xl xw xb
    rw [XL.out]
    have S0 := Lib.hid (Sl_empty w4 21 .i32)
    have S1 : Hid (Src (w4.alloc (.cells #[] 21)) .i32 (.slice A1 256 c1) X) := Lib.hid (Src.of_sl (H4.out.alloc _).sl)
    have XC : Hid (X.length ≤ 2000) := Lib.hid (by rw [XL.out]; decide)
    go_wp2_with (at_builtin; refine wpList_add (.tmp 36) (.tmp 37) 22 21 .i32 0 4 rfl rfl Try.underlying22 info_i32 _ _ [] X rfl rfl S0.out S1.out (by have := XC.out; simp; omega) (by have := XC.out; simp; omega) ?_
                 intro v5 w5 hp
                 have bf := added_fresh hp
                 have sl5 := hp.sl
                 rw [List.nil_append] at sl5
                 have h5 := H4.out.add_sl bf.1 sl5 bf.2
                 obtain ⟨A5, c5, rfl, _⟩ := h5.sl.form
                 have H5 := Lib.hid h5
                 clear hp bf h5 sl5 S0 S1)
    rw [XL.out]
    rw [XL.out] at H5
    refine (Forward128 (Hp_lap (H5.out.pk [3, 3])) (Src.of_sl H5.out.sl) XL.out XW.out).mono ?_
    rintro e6 w6 ⟨g6, rfl, hg6, hr6, b6⟩
    have H6 := Lib.hid (H5.out.add_row b6 hr6 hg6)
    clear hg6 hr6 b6 H4
    go_wp2_with fail
    refine (Quarter_h H6.out).mono ?_
    rintro e7 w7 ⟨g7, c7, rfl, hg7, h7⟩
    have H7 := Lib.hid h7
    clear h7 H6 hg7
    go_wp2_with fail
    refine (rForward128 (by have := Src.of_sl (Sl.row H7.out.row); rw [QT_length] at this; exact this) (Src.of_sl H7.out.up4.sl) XL.out XB.out).mono ?_
    rintro e8 w8 ⟨g8, rfl, hg8, hr8, b8⟩
    have H8 := Lib.hid (H7.out.add_row b8 hr8 hg8)
    clear hg8 hr8 b8 H7
    have RB := Lib.hid (fwdv_b128 (x := X) XB.out)
    have RL : Hid ((fwdv 128 4 134217728 X).length = 128) := Lib.hid (by rw [fwdv_len])
    go_wp2_with fail
    refine (same_yes (by have := Src.of_sl (Sl.row H8.out.up2.row); rw [RL.out] at this; exact this) (by have := Src.of_sl (Sl.row H8.out.row); rw [RL.out] at this; exact this) RL.out (by decide) RB.out).mono ?_
    rintro e9 w9 ⟨rfl, q9, rfl⟩
    have H9 := Lib.hid (H8.out.drewN q9)
    clear H8
    go_wp2_with fail
    refine (same_yes (Src.of_sl H9.out.up3.sl) (Src.of_sl H9.out.up5.sl) XL.out (by decide) (fun j => by have := XB.out j; omega)).mono ?_
    rintro e10 w10 ⟨rfl, q10, rfl⟩
    have H10 := Lib.hid (H9.out.drewN q10)
    clear H9
    have hb := H10.out.b
    rw [World.drewN_drewN] at hb
    have HB := Lib.hid hb
    clear hb
    go_wp2_with fail
    go_ret
    exact ⟨rfl, HB.out⟩
  · go_enter Try.func4, Try.ntmps4
    go_wp2_with fail
    refine (lives_calls _).mono ?_
    rintro e1 w1 ⟨rfl, b1⟩
    have H1 : Hid (Hp W w1 []) := Lib.hid ((Hp.nil W).keep b1)
    clear b1
    go_wp2_with fail
    refine (size_calls true _).mono ?_
    rintro e2 w2 ⟨rfl, he⟩
    subst w2
    rw [show (if true = true then (512 : Int) else 128) = 512 from rfl]
    go_wp2_with fail
    refine (Circ_h H1.out).mono ?_
    rintro e2 w2 ⟨g, rfl, h2⟩
    have H2 := Lib.hid h2
    clear h2 H1
    go_wp2_with fail
    refine (Lap_h H2.out 512 1 28 (.inr ⟨rfl, rfl, rfl⟩)).mono ?_
    rintro e3 w3 ⟨t, rfl, h3⟩
    have H3 := Lib.hid h3
    clear h3 H2
    go_wp2_with fail
    refine (fill21 H3.out (Rd.arg RD.out) LN.out (by omega) B32.out 1024 (by decide)).mono ?_
    rintro e4 w4 ⟨v1, v2, rfl, h4⟩
    obtain ⟨X, hX⟩ : ∃ X, fillv ys 1048576 1024 = X := ⟨_, rfl⟩
    have xl : X.length = 1024 := by rw [← hX]; exact fillv_len _ _ _
    have xw : within 1048576 X = true := by rw [← hX]; exact fillv_within ys (by decide) _
    have xb : ∀ j, -1048576 ≤ X.getD j 0 ∧ X.getD j 0 < 1048576 := within_at xw (by decide)
    rw [hX] at h4
    obtain ⟨A1, c1, rfl, _⟩ := h4.sl.form
    obtain ⟨A2, c2, rfl, _⟩ := h4.up1.sl.form
    rw [xl] at h4
    have H4 := Lib.hid h4
    have XL := Lib.hid xl
    have XW := Lib.hid xw
    have XB := Lib.hid xb
    clear hX h4 H3 xl xw xb
    rw [XL.out]
    have S0 := Lib.hid (Sl_empty w4 21 .i32)
    have S1 : Hid (Src (w4.alloc (.cells #[] 21)) .i32 (.slice A1 1024 c1) X) := Lib.hid (Src.of_sl (H4.out.alloc _).sl)
    have XC : Hid (X.length ≤ 2000) := Lib.hid (by rw [XL.out]; decide)
    go_wp2_with (at_builtin; refine wpList_add (.tmp 36) (.tmp 37) 22 21 .i32 0 4 rfl rfl Try.underlying22 info_i32 _ _ [] X rfl rfl S0.out S1.out (by have := XC.out; simp; omega) (by have := XC.out; simp; omega) ?_
                 intro v5 w5 hp
                 have bf := added_fresh hp
                 have sl5 := hp.sl
                 rw [List.nil_append] at sl5
                 have h5 := H4.out.add_sl bf.1 sl5 bf.2
                 obtain ⟨A5, c5, rfl, _⟩ := h5.sl.form
                 have H5 := Lib.hid h5
                 clear hp bf h5 sl5 S0 S1)
    rw [XL.out]
    rw [XL.out] at H5
    refine (Forward512 (Hp_lap (H5.out.pk [3, 3])) (Src.of_sl H5.out.sl) XL.out XW.out).mono ?_
    rintro e6 w6 ⟨g6, rfl, hg6, hr6, b6⟩
    have H6 := Lib.hid (H5.out.add_row b6 hr6 hg6)
    clear hg6 hr6 b6 H4
    go_wp2_with fail
    refine (Quarter_h H6.out).mono ?_
    rintro e7 w7 ⟨g7, c7, rfl, hg7, h7⟩
    have H7 := Lib.hid h7
    clear h7 H6 hg7
    go_wp2_with fail
    refine (rForward512 (by have := Src.of_sl (Sl.row H7.out.row); rw [QT_length] at this; exact this) (Src.of_sl H7.out.up4.sl) XL.out XB.out).mono ?_
    rintro e8 w8 ⟨g8, rfl, hg8, hr8, b8⟩
    have H8 := Lib.hid (H7.out.add_row b8 hr8 hg8)
    clear hg8 hr8 b8 H7
    have RB := Lib.hid (fwdv_b512 (x := X) XB.out)
    have RL : Hid ((fwdv 512 1 268435456 X).length = 512) := Lib.hid (by rw [fwdv_len])
    go_wp2_with fail
    refine (same_yes (by have := Src.of_sl (Sl.row H8.out.up2.row); rw [RL.out] at this; exact this) (by have := Src.of_sl (Sl.row H8.out.row); rw [RL.out] at this; exact this) RL.out (by decide) RB.out).mono ?_
    rintro e9 w9 ⟨rfl, q9, rfl⟩
    have H9 := Lib.hid (H8.out.drewN q9)
    clear H8
    go_wp2_with fail
    refine (same_yes (Src.of_sl H9.out.up3.sl) (Src.of_sl H9.out.up5.sl) XL.out (by decide) (fun j => by have := XB.out j; omega)).mono ?_
    rintro e10 w10 ⟨rfl, q10, rfl⟩
    have H10 := Lib.hid (H9.out.drewN q10)
    clear H9
    have hb := H10.out.b
    rw [World.drewN_drewN] at hb
    have HB := Lib.hid hb
    clear hb
    go_wp2_with fail
    go_ret
    exact ⟨rfl, HB.out⟩
set_option maxHeartbeats 2000000 in
set_option maxRecDepth 100000 in
theorem again_law (a0 : Option Addr) (len0 cap0 : Nat) (z0 : List Int) (b : Bool) (W : World) (h0 : IsRow .i32 W a0 len0 cap0 z0) (y0 : len0 * 4 ≤ 140737488351232) :
    Calls Try.prog 5 #[.slice a0 len0 cap0, .bool b] W fun e w' => e = .returned (.bool true) ∧ Below W.heap.size W w' := by
  by_cases hs : 2000 < len0
  · have k1 : decide ((2000 : Int) < (len0 : Int)) = true := decide_eq_true (by omega)
    go_enter Try.func5, Try.ntmps5
    go_wp2_with fail
    refine (lives_calls _).mono ?_
    rintro e1 w1 ⟨rfl, b1⟩
    have H1 : Hid (Hp W w1 []) := Lib.hid ((Hp.nil W).keep b1)
    clear b1
    go_wp2_with fail
    refine (lives_calls _).mono ?_
    rintro e2 w2 ⟨rfl, b2⟩
    have H2 := Lib.hid (H1.out.keep b2)
    clear b2
    go_wp2_with fail
    go_ret
    exact ⟨rfl, H2.out.b⟩
  have k1 : decide ((2000 : Int) < (len0 : Int)) = false := decide_eq_false (by omega)
  have RD := Lib.hid h0.src
  have LN := Lib.hid h0.take_len
  have B32 := Lib.hid (i32_bd h0)
  clear h0 y0
  generalize z0.take len0 = ys at *
  cases b
  · go_enter Try.func5, Try.ntmps5
    go_wp2_with fail
    refine (lives_calls _).mono ?_
    rintro e1 w1 ⟨rfl, b1⟩
    have H1 : Hid (Hp W w1 []) := Lib.hid ((Hp.nil W).keep b1)
    clear b1
    go_wp2_with fail
    refine (size_calls false _).mono ?_
    rintro e2 w2 ⟨rfl, he⟩
    subst w2
    rw [show (if false = true then (512 : Int) else 128) = 128 from rfl]
    go_wp2_with fail
    refine (Circ_h H1.out).mono ?_
    rintro e2 w2 ⟨g, rfl, h2⟩
    have H2 := Lib.hid h2
    clear h2 H1
    go_wp2_with fail
    refine (Lap_h H2.out 128 4 27 (.inl ⟨rfl, rfl, rfl⟩)).mono ?_
    rintro e3 w3 ⟨t, rfl, h3⟩
    have H3 := Lib.hid h3
    clear h3 H2
    go_wp2_with fail
    refine (fill20 H3.out (Rd.arg RD.out) LN.out (by omega) B32.out 256 (by decide)).mono ?_
    rintro e4 w4 ⟨v1, v2, rfl, h4⟩
    obtain ⟨X, hX⟩ : ∃ X, fillv ys 524288 256 = X := ⟨_, rfl⟩
    have xl : X.length = 256 := by rw [← hX]; exact fillv_len _ _ _
    have xs : ∀ j, -524288 < X.getD j 0 ∧ X.getD j 0 < 524288 := by rw [← hX]; exact fillv_bd ys (M := 524288) (by decide) _
    have xw : within 1048576 X = true := by
      rw [← hX]
      unfold within
      rw [List.all_eq_true]
      intro y hy
      obtain ⟨j, hj, rfl⟩ := List.getElem_of_mem hy
      have := fillv_bd ys (M := 524288) (by decide) 256 j
      rw [List.getD_eq_getElem?_getD, List.getElem?_eq_getElem hj] at this
      simp at this ⊢
      omega
    rw [hX] at h4
    obtain ⟨A1, c1, rfl, _⟩ := h4.sl.form
    obtain ⟨A2, c2, rfl, _⟩ := h4.up1.sl.form
    rw [xl] at h4
    have H4 := Lib.hid h4
    have XL := Lib.hid xl
    have XW := Lib.hid xw
    have XS := Lib.hid xs
    clear hX h4 H3 xl xw xs
    rw [XL.out]
    go_wp2_with fail
    refine (Forward128 (Hp_lap (H4.out.pk [2, 2])) (Src.of_sl H4.out.sl) XL.out XW.out).mono ?_
    rintro e5 w5 ⟨g5, rfl, hg5, hr5, b5⟩
    have H5 := Lib.hid (H4.out.add_row b5 hr5 hg5)
    clear hg5 hr5 b5 H4
    go_wp2_with fail
    refine (Back128 (Hp_lap (H5.out.pk [3, 3])) (by have := Src.of_sl (Sl.row H5.out.row); rw [fwdv_len] at this; exact this) (fwdv_len _ _ _ _) (fwdv_within _ _ _ _)).mono ?_
    rintro e6 w6 ⟨g6, rfl, hg6, hr6, b6⟩
    have H6 := Lib.hid (H5.out.add_row b6 hr6 hg6)
    clear hg6 hr6 b6 H5
    go_wp2_with fail
    refine (rFold128 (Src.of_sl H6.out.up3.sl) XL.out (fun j => by have := XS.out j; omega)).mono ?_
    rintro e7 w7 ⟨g7, rfl, hg7, hr7, b7⟩
    have H7 := Lib.hid (H6.out.add_row b7 hr7 hg7)
    clear hg7 hr7 b7 H6
    go_wp2_with fail
    refine (rUnfold128 (by have := Src.of_sl (Sl.row H7.out.row); rw [fold_len] at this; exact this) (fold_len _ _) (fun j => by have := fold_bd20 (n := 128) XS.out j; omega)).mono ?_
    rintro e8 w8 ⟨g8, rfl, hg8, hr8, b8⟩
    have AG := Lib.hid (again128 XS.out)
    have BB := Lib.hid (backv_b128 (x := fwdv 128 4 134217728 X) (within_at (fwdv_within _ _ _ _) (by decide)))
    obtain ⟨G, hG⟩ : ∃ G, backv 128 4 134217728 (fwdv 128 4 134217728 X) = G := ⟨_, rfl⟩
    obtain ⟨V, hV⟩ : ∃ V, unfv 128 (foldv 128 X) = V := ⟨_, rfl⟩
    have gl : G.length = 256 := by rw [← hG, backv_len]
    have vl : V.length = 256 := by rw [← hV]; simp [unfv]
    have h8 := (H7.out.add_row b8 hr8 hg8).pk [2, 0]
    rw [hG, hV] at AG
    rw [hG] at BB
    simp only [pick, List.getElem?_cons_succ, List.getElem?_cons_zero, List.eraseIdx_cons_succ, List.eraseIdx_cons_zero] at h8
    rw [hG, hV] at h8
    have H8 : Hid (Hp W w8 [rowA 21 .i32 g6 256 G, rowA 2 .i64 g8 256 V]) := Lib.hid h8
    have GL := Lib.hid gl
    have VL := Lib.hid vl
    clear hg8 hr8 b8 h8 H7 hG hV gl vl
    go_wp2_with fail
    go_loopw [74] (fun i wr => ∃ k : Nat, k ≤ 256 ∧ i = .int .i64 (k : Int) ∧ Hid (Hp W wr [rowA 21 .i32 g6 256 G, rowA 2 .i64 g8 256 V])) (fun i _ => 256 - (intOf i).toNat)
    case atStart => exact ⟨0, by omega, rfl, H8⟩
    case round =>
      clear H8
      obtain ⟨k, hk, rfl, H⟩ := hrel
      by_cases hlt : k < 256
      · have ik : (k : Int) < 256 := by omega
        have d1 := H.out.row.cell (i := k) (by rw [GL.out]; omega)
        have d2 := H.out.up1.row.cell (i := k) (by rw [VL.out]; omega)
        have e1 : G[k]'(by rw [GL.out]; omega) = G.getD k 0 := by rw [List.getD_eq_getElem?_getD, List.getElem?_eq_getElem (by rw [GL.out]; omega)]; rfl
        have e2 : V[k]'(by rw [VL.out]; omega) = V.getD k 0 := by rw [List.getD_eq_getElem?_getD, List.getElem?_eq_getElem (by rw [VL.out]; omega)]; rfl
        rw [e1] at d1
        rw [e2] at d2
        have ag := AG.out k (by omega)
        have bb := BB.out k
        obtain ⟨x, hx⟩ : ∃ x, G.getD k 0 = x := ⟨_, rfl⟩
        obtain ⟨y, hy⟩ : ∃ y, V.getD k 0 = y := ⟨_, rfl⟩
        rw [hx] at d1 ag bb
        rw [hy] at d2 ag
        obtain ⟨z, hz⟩ : ∃ z, x - y = z := ⟨_, rfl⟩
        have w1 : IntKind.i64.wrap x = x := wrapI64 (by omega) (by omega)
        have w2 : IntKind.i64.wrap (x - y) = z := by rw [wrapI64 (by omega) (by omega), hz]
        rw [hz] at ag
        have lk : k < 256 := hlt
        have HH := Lib.hid H.out
        clear hx hy hz e1 e2 H bb
        go_wp2_with fail
        go_quiet (fail)
        clear w1 w2
        go_wp2_with fail
        go_roundw
        case rel => exact ⟨k + 1, by omega, by go_num, Lib.hid (HH.out.drewN _)⟩
        case measure => simp [intOf]; omega
      · obtain rfl : k = 256 := by omega
        go_wp2_with fail
        go_ret
        exact ⟨rfl, H.out.b⟩
  · go_enter Try.func5, Try.ntmps5
    go_wp2_with fail
    refine (lives_calls _).mono ?_
    rintro e1 w1 ⟨rfl, b1⟩
    have H1 : Hid (Hp W w1 []) := Lib.hid ((Hp.nil W).keep b1)
    clear b1
    go_wp2_with fail
    refine (size_calls true _).mono ?_
    rintro e2 w2 ⟨rfl, he⟩
    subst w2
    rw [show (if true = true then (512 : Int) else 128) = 512 from rfl]
    go_wp2_with fail
    refine (Circ_h H1.out).mono ?_
    rintro e2 w2 ⟨g, rfl, h2⟩
    have H2 := Lib.hid h2
    clear h2 H1
    go_wp2_with fail
    refine (Lap_h H2.out 512 1 28 (.inr ⟨rfl, rfl, rfl⟩)).mono ?_
    rintro e3 w3 ⟨t, rfl, h3⟩
    have H3 := Lib.hid h3
    clear h3 H2
    go_wp2_with fail
    refine (fill20 H3.out (Rd.arg RD.out) LN.out (by omega) B32.out 1024 (by decide)).mono ?_
    rintro e4 w4 ⟨v1, v2, rfl, h4⟩
    obtain ⟨X, hX⟩ : ∃ X, fillv ys 524288 1024 = X := ⟨_, rfl⟩
    have xl : X.length = 1024 := by rw [← hX]; exact fillv_len _ _ _
    have xs : ∀ j, -524288 < X.getD j 0 ∧ X.getD j 0 < 524288 := by rw [← hX]; exact fillv_bd ys (M := 524288) (by decide) _
    have xw : within 1048576 X = true := by
      rw [← hX]
      unfold within
      rw [List.all_eq_true]
      intro y hy
      obtain ⟨j, hj, rfl⟩ := List.getElem_of_mem hy
      have := fillv_bd ys (M := 524288) (by decide) 1024 j
      rw [List.getD_eq_getElem?_getD, List.getElem?_eq_getElem hj] at this
      simp at this ⊢
      omega
    rw [hX] at h4
    obtain ⟨A1, c1, rfl, _⟩ := h4.sl.form
    obtain ⟨A2, c2, rfl, _⟩ := h4.up1.sl.form
    rw [xl] at h4
    have H4 := Lib.hid h4
    have XL := Lib.hid xl
    have XW := Lib.hid xw
    have XS := Lib.hid xs
    clear hX h4 H3 xl xw xs
    rw [XL.out]
    go_wp2_with fail
    refine (Forward512 (Hp_lap (H4.out.pk [2, 2])) (Src.of_sl H4.out.sl) XL.out XW.out).mono ?_
    rintro e5 w5 ⟨g5, rfl, hg5, hr5, b5⟩
    have H5 := Lib.hid (H4.out.add_row b5 hr5 hg5)
    clear hg5 hr5 b5 H4
    go_wp2_with fail
    refine (Back512 (Hp_lap (H5.out.pk [3, 3])) (by have := Src.of_sl (Sl.row H5.out.row); rw [fwdv_len] at this; exact this) (fwdv_len _ _ _ _) (fwdv_within _ _ _ _)).mono ?_
    rintro e6 w6 ⟨g6, rfl, hg6, hr6, b6⟩
    have H6 := Lib.hid (H5.out.add_row b6 hr6 hg6)
    clear hg6 hr6 b6 H5
    go_wp2_with fail
    refine (rFold512 (Src.of_sl H6.out.up3.sl) XL.out (fun j => by have := XS.out j; omega)).mono ?_
    rintro e7 w7 ⟨g7, rfl, hg7, hr7, b7⟩
    have H7 := Lib.hid (H6.out.add_row b7 hr7 hg7)
    clear hg7 hr7 b7 H6
    go_wp2_with fail
    refine (rUnfold512 (by have := Src.of_sl (Sl.row H7.out.row); rw [fold_len] at this; exact this) (fold_len _ _) (fun j => by have := fold_bd20 (n := 512) XS.out j; omega)).mono ?_
    rintro e8 w8 ⟨g8, rfl, hg8, hr8, b8⟩
    have AG := Lib.hid (again512 XS.out)
    have BB := Lib.hid (backv_b512 (x := fwdv 512 1 268435456 X) (within_at (fwdv_within _ _ _ _) (by decide)))
    obtain ⟨G, hG⟩ : ∃ G, backv 512 1 268435456 (fwdv 512 1 268435456 X) = G := ⟨_, rfl⟩
    obtain ⟨V, hV⟩ : ∃ V, unfv 512 (foldv 512 X) = V := ⟨_, rfl⟩
    have gl : G.length = 1024 := by rw [← hG, backv_len]
    have vl : V.length = 1024 := by rw [← hV]; simp [unfv]
    have h8 := (H7.out.add_row b8 hr8 hg8).pk [2, 0]
    rw [hG, hV] at AG
    rw [hG] at BB
    simp only [pick, List.getElem?_cons_succ, List.getElem?_cons_zero, List.eraseIdx_cons_succ, List.eraseIdx_cons_zero] at h8
    rw [hG, hV] at h8
    have H8 : Hid (Hp W w8 [rowA 21 .i32 g6 1024 G, rowA 2 .i64 g8 1024 V]) := Lib.hid h8
    have GL := Lib.hid gl
    have VL := Lib.hid vl
    clear hg8 hr8 b8 h8 H7 hG hV gl vl
    go_wp2_with fail
    go_loopw [74] (fun i wr => ∃ k : Nat, k ≤ 1024 ∧ i = .int .i64 (k : Int) ∧ Hid (Hp W wr [rowA 21 .i32 g6 1024 G, rowA 2 .i64 g8 1024 V])) (fun i _ => 1024 - (intOf i).toNat)
    case atStart => exact ⟨0, by omega, rfl, H8⟩
    case round =>
      clear H8
      obtain ⟨k, hk, rfl, H⟩ := hrel
      by_cases hlt : k < 1024
      · have ik : (k : Int) < 1024 := by omega
        have d1 := H.out.row.cell (i := k) (by rw [GL.out]; omega)
        have d2 := H.out.up1.row.cell (i := k) (by rw [VL.out]; omega)
        have e1 : G[k]'(by rw [GL.out]; omega) = G.getD k 0 := by rw [List.getD_eq_getElem?_getD, List.getElem?_eq_getElem (by rw [GL.out]; omega)]; rfl
        have e2 : V[k]'(by rw [VL.out]; omega) = V.getD k 0 := by rw [List.getD_eq_getElem?_getD, List.getElem?_eq_getElem (by rw [VL.out]; omega)]; rfl
        rw [e1] at d1
        rw [e2] at d2
        have ag := AG.out k (by omega)
        have bb := BB.out k
        obtain ⟨x, hx⟩ : ∃ x, G.getD k 0 = x := ⟨_, rfl⟩
        obtain ⟨y, hy⟩ : ∃ y, V.getD k 0 = y := ⟨_, rfl⟩
        rw [hx] at d1 ag bb
        rw [hy] at d2 ag
        obtain ⟨z, hz⟩ : ∃ z, x - y = z := ⟨_, rfl⟩
        have w1 : IntKind.i64.wrap x = x := wrapI64 (by omega) (by omega)
        have w2 : IntKind.i64.wrap (x - y) = z := by rw [wrapI64 (by omega) (by omega), hz]
        rw [hz] at ag
        have lk : k < 1024 := hlt
        have HH := Lib.hid H.out
        clear hx hy hz e1 e2 H bb
        go_wp2_with fail
        go_quiet (fail)
        clear w1 w2
        go_wp2_with fail
        go_roundw
        case rel => exact ⟨k + 1, by omega, by go_num, Lib.hid (HH.out.drewN _)⟩
        case measure => simp [intOf]; omega
      · obtain rfl : k = 1024 := by omega
        go_wp2_with fail
        go_ret
        exact ⟨rfl, H.out.b⟩
end Go.Proofs.Ytngldpeapcbbpaa.Lap

/-
  Overlap: its tools are made; walks. No condition but those told.
-/
set_option linter.unusedVariables false
set_option linter.unusedSimpArgs false
namespace Go.Proofs.Ytngldpeapcbbpaa.Lap
open Go.RowKit Go.Proofs.Ytngldpeapcbbpaa Go.Proofs.Ytngldpeapcbbpaa.Bnd Go.Proofs.Ytngldpeapcbbpaa.Art Go.Proofs.YtngldpeapcbbpaaW.PrintWords

attribute [local irreducible] cosv wgt qt QT risev
set_option maxHeartbeats 1000000 in
theorem made_h {W w : World} {l : List Ast} (H : Hp W w l) : Calls Try.prog 50 #[] w fun e w' => ∃ c lo br, e = .returned (.agg #[.pointer (some ⟨c, 0, none⟩), .pointer (some ⟨lo, 0, none⟩), .pointer (some ⟨br, 0, none⟩)]) ∧ Hp W w' (lapA lo c 512 1 28 :: lapA br c 128 4 27 :: circA c :: l) := by
  have H0 := Lib.hid (H.new_blk 85 #[.pointer none, .pointer none, .pointer none])
  clear H
  go_enter Try.func50, Try.ntmps50
  go_wp2_with fail
  refine (Circ_h H0.out).mono ?_
  rintro e1 w1 ⟨c, rfl, h1⟩
  have H1 := Lib.hid h1
  clear h1 H0
  go_wp2_with fail
  refine (Lap_h H1.out 512 1 28 (.inr ⟨rfl, rfl, rfl⟩)).mono ?_
  rintro e2 w2 ⟨lo, rfl, h2⟩
  have H2 := Lib.hid h2.up1
  clear h2 H1
  go_wp2_with fail
  refine (Lap_h H2.out 128 4 27 (.inl ⟨rfl, rfl, rfl⟩)).mono ?_
  rintro e3 w3 ⟨br, rfl, h3⟩
  have H3 := Lib.hid h3
  clear h3 H2
  have fr := fun i => H3.out.up3.blk.free i
  have c0 := H3.out.up3.blk.cell (i := 0) rfl
  have c1 := H3.out.up3.blk.cell (i := 1) rfl
  have c2 := H3.out.up3.blk.cell (i := 2) rfl
  go_wp2_with fail
  have hf := ((H3.out.up3.bset 0 (.pointer (some ⟨c, 0, none⟩))).bset 1 (.pointer (some ⟨lo, 0, none⟩))).bset 2 (.pointer (some ⟨br, 0, none⟩))
  generalize ((w3.setCell ⟨w.heap.size, 0, none⟩ (.pointer (some ⟨c, 0, none⟩))).setCell ⟨w.heap.size, 1, none⟩ (.pointer (some ⟨lo, 0, none⟩))).setCell ⟨w.heap.size, 2, none⟩ (.pointer (some ⟨br, 0, none⟩)) = wf at hf ⊢
  have d0 := hf.blk.cell (i := 0) rfl
  have d1 := hf.blk.cell (i := 1) rfl
  have d2 := hf.blk.cell (i := 2) rfl
  have HF := Lib.hid hf.drop.up2
  clear hf c0 c1 c2 fr
  exact bodyPost_ret (v := .agg #[.pointer (some ⟨c, 0, none⟩), .pointer (some ⟨lo, 0, none⟩), .pointer (some ⟨br, 0, none⟩)]) (by simp [results, Try.results50, go_sem, d0, d1, d2]) rfl ⟨c, lo, br, rfl, HF.out⟩
end Go.Proofs.Ytngldpeapcbbpaa.Lap

/-
  Overlap: an analyser, a synth are made; walks. No condition but those told.
-/
set_option linter.unusedVariables false
set_option linter.unusedSimpArgs false
namespace Go.Proofs.Ytngldpeapcbbpaa.Lap
open Go.RowKit Go.Proofs.Ytngldpeapcbbpaa Go.Proofs.Ytngldpeapcbbpaa.Bnd Go.Proofs.Ytngldpeapcbbpaa.Art Go.Proofs.YtngldpeapcbbpaaW.PrintWords

attribute [local irreducible] cosv wgt qt QT risev
/-- An analyser's block: its tools, and the samples past. -/
abbrev anaA (a c lo br : Nat) (v : Value) : Ast := blkA a 88 #[.pointer (some ⟨c, 0, none⟩), .pointer (some ⟨lo, 0, none⟩), .pointer (some ⟨br, 0, none⟩), v]
set_option maxHeartbeats 1000000 in
set_option maxRecDepth 100000 in
theorem NewAnalyser_h {W w : World} {l : List Ast} (H : Hp W w l) : Calls Try.prog 27 #[] w fun e w' => ∃ a c lo br v, e = .returned (.pointer (some ⟨a, 0, none⟩)) ∧ Hp W w' (anaA a c lo br v :: slA 21 .i32 v (List.replicate 128 0) :: lapA lo c 512 1 28 :: lapA br c 128 4 27 :: circA c :: l) := by
  have HH := Lib.hid H
  clear H
  have hm := mk32 128 (by decide)
  rw [show ((128 : Nat) : Int) = 128 from rfl] at hm
  go_enter Try.func27, Try.ntmps27
  go_wp2_with fail
  go_cut [0] (fun u wc => ∃ a c lo br v, u = .pointer (some ⟨a, 0, none⟩) ∧ Hid (Hp W wc (anaA a c lo br v :: slA 21 .i32 v (List.replicate 128 0) :: lapA lo c 512 1 28 :: lapA br c 128 4 27 :: circA c :: l)))
  case first =>
    go_region_with (first | (go_at_call 50; refine (made_h (by first | exact HH.out.drew | exact (HH.out.drew.new_row 21 .i32 128 0 (by decide)))).mono ?_; rintro e1 w1 ⟨c, lo, br, rfl, h1⟩; have H1 := Lib.hid h1; clear h1))
    all_goals (go_wp2_with fail; go_meet)
    · have h := ((H1.out.new_row 21 .i32 128 0 (by decide)).row_sl (n := 128) (by simp)).new_blk 88 #[.pointer (some ⟨c, 0, none⟩), .pointer (some ⟨lo, 0, none⟩), .pointer (some ⟨br, 0, none⟩), .slice (some ⟨w1.heap.size, 0, none⟩) 128 128]
      rw [show (w1.alloc (.cells (madeCells #[.int .i32 0] 128) 21)).heap.size = w1.heap.size + 1 by simp] at h
      exact ⟨_, c, lo, br, _, rfl, Lib.hid h⟩
    · have h := (H1.out.up3.row_sl (n := 128) (by simp)).new_blk 88 #[.pointer (some ⟨c, 0, none⟩), .pointer (some ⟨lo, 0, none⟩), .pointer (some ⟨br, 0, none⟩), .slice (some ⟨w.heap.size, 0, none⟩) 128 128]
      exact ⟨_, c, lo, br, _, rfl, Lib.hid h⟩
  case rest =>
    obtain ⟨a, c, lo, br, v, rfl, H⟩ := hcut
    go_wp2_with fail
    go_ret
    exact ⟨_, _, _, _, _, rfl, H.out⟩
/-- A synth's block: its tools, and what is left. -/
abbrev synA (a c lo br : Nat) (v : Value) : Ast := blkA a 90 #[.pointer (some ⟨c, 0, none⟩), .pointer (some ⟨lo, 0, none⟩), .pointer (some ⟨br, 0, none⟩), v]
set_option maxHeartbeats 1000000 in
set_option maxRecDepth 100000 in
theorem NewSynth_h {W w : World} {l : List Ast} (H : Hp W w l) : Calls Try.prog 31 #[] w fun e w' => ∃ a c lo br v, e = .returned (.pointer (some ⟨a, 0, none⟩)) ∧ Hp W w' (synA a c lo br v :: slA 2 .i64 v (List.replicate 128 0) :: lapA lo c 512 1 28 :: lapA br c 128 4 27 :: circA c :: l) := by
  have HH := Lib.hid H
  clear H
  have hm := mk64 128 (by decide)
  rw [show ((128 : Nat) : Int) = 128 from rfl] at hm
  go_enter Try.func31, Try.ntmps31
  go_wp2_with fail
  go_cut [0] (fun u wc => ∃ a c lo br v, u = .pointer (some ⟨a, 0, none⟩) ∧ Hid (Hp W wc (synA a c lo br v :: slA 2 .i64 v (List.replicate 128 0) :: lapA lo c 512 1 28 :: lapA br c 128 4 27 :: circA c :: l)))
  case first =>
    go_region_with (first | (go_at_call 50; refine (made_h (by first | exact HH.out.drew | exact (HH.out.drew.new_row 2 .i64 128 0 (by decide)))).mono ?_; rintro e1 w1 ⟨c, lo, br, rfl, h1⟩; have H1 := Lib.hid h1; clear h1))
    all_goals (go_wp2_with fail; go_meet)
    · have h := ((H1.out.new_row 2 .i64 128 0 (by decide)).row_sl (n := 128) (by simp)).new_blk 90 #[.pointer (some ⟨c, 0, none⟩), .pointer (some ⟨lo, 0, none⟩), .pointer (some ⟨br, 0, none⟩), .slice (some ⟨w1.heap.size, 0, none⟩) 128 128]
      rw [show (w1.alloc (.cells (madeCells #[.int .i64 0] 128) 2)).heap.size = w1.heap.size + 1 by simp] at h
      exact ⟨_, c, lo, br, _, rfl, Lib.hid h⟩
    · have h := (H1.out.up3.row_sl (n := 128) (by simp)).new_blk 90 #[.pointer (some ⟨c, 0, none⟩), .pointer (some ⟨lo, 0, none⟩), .pointer (some ⟨br, 0, none⟩), .slice (some ⟨w.heap.size, 0, none⟩) 128 128]
      exact ⟨_, c, lo, br, _, rfl, Lib.hid h⟩
  case rest =>
    obtain ⟨a, c, lo, br, v, rfl, H⟩ := hcut
    go_wp2_with fail
    go_ret
    exact ⟨_, _, _, _, _, rfl, H.out⟩
end Go.Proofs.Ytngldpeapcbbpaa.Lap
