/- Texts of this session, merged. -/
import Derived.Test.YtlbjoflmfboeeaaMea3
import Derived.Test.YtlbjoflmfboeeaaRows
/-
  The walks of energy.Right, apart, and of the document's; lives of law 10; no condition.
-/
set_option linter.unusedVariables false
set_option linter.unusedSimpArgs false
namespace Go.Proofs.Ytlbjoflmfboeeaa.Erg
open Go.RowKit Go.Proofs.Ytlbjoflmfboeeaa Go.Proofs.YtlbjoflmfboeeaaW.PrintWords

/-- May ceilings be? -/
def okc (x : Int) : Bool := decide (0 ≤ x ∧ x ≤ 26)
def rightB (l : List Int) : Bool := l.all okc && decide (l.length = 21)
theorem all_drop (l : List Int) (j : Nat) (h : j < l.length) : (l.drop j).all okc = (okc l[j] && (l.drop (j + 1)).all okc) := by
  rw [List.drop_eq_getElem_cons h, List.all_cons]
set_option maxRecDepth 100000 in
theorem Right_calls {w : World} {u : Value} {l : List Int} (src : Src w .i64 u l) (hl : l.length ≤ 1000000000) :
    Calls Try.prog 76 #[u] w fun e w' => e = .returned (.bool (rightB l)) ∧ w' = w := by
  obtain ⟨A, c, rfl, h⟩ := src
  have H := Lib.hid h
  have HL : Hid (l.length = l.length) := Lib.hid rfl
  clear h
  obtain ⟨n, hn⟩ : ∃ n, l.length = n := ⟨_, rfl⟩
  rw [hn] at hl ⊢
  have HN := Lib.hid hn
  clear hn HL
  go_enter Try.func76, Try.ntmps76
  go_wp2
  go_loopw [7] (fun u wr => ∃ k : Nat, k ≤ n ∧ u = .int .i64 (k : Int) ∧ Hid (rightB l = ((l.drop k).all okc && decide (l.length = 21))) ∧ wr = w) (fun u _ => n - (intOf u).toNat)
  case atStart => exact ⟨0, by omega, rfl, rfl, rfl⟩
  case round =>
    obtain ⟨k, hk, rfl, HR, rfl⟩ := hrel
    by_cases hlt : k < n
    · obtain ⟨ad, rfl, hc⟩ := H.out (by rw [HN.out]; omega)
      have dk := hc k (by rw [HN.out]; omega)
      have HA := Lib.hid (all_drop l k (by rw [HN.out]; omega))
      have ik : (k : Int) < (n : Int) := by omega
      clear hc
      generalize l[k]'(by rw [HN.out]; omega) = x at *
      by_cases h1 : x < 0
      · have HF : Hid (rightB l = false) := Lib.hid (by rw [HR.out, HA.out]; unfold okc; rw [decide_eq_false (by omega)]; rfl)
        go_wp2
        go_ret
        rw [HF.out]
        exact ⟨rfl, rfl⟩
      by_cases h2 : 26 < x
      · have HF : Hid (rightB l = false) := Lib.hid (by rw [HR.out, HA.out]; unfold okc; rw [decide_eq_false (by omega)]; rfl)
        go_wp2
        go_ret
        rw [HF.out]
        exact ⟨rfl, rfl⟩
      have HT : Hid (rightB l = ((l.drop (k + 1)).all okc && decide (l.length = 21))) := Lib.hid (by rw [HR.out, HA.out]; unfold okc; rw [decide_eq_true (show 0 ≤ x ∧ x ≤ 26 by omega), Bool.true_and])
      go_wp2
      go_roundw
      case rel => exact ⟨k + 1, by omega, by push_cast; rfl, HT, trivial⟩
      case measure => simp [intOf]; omega
    · obtain rfl : k = n := by omega
      have HF : Hid (rightB l = decide (k = 21)) := Lib.hid (by rw [HR.out, List.drop_of_length_le (by rw [HN.out]; omega), HN.out]; rfl)
      by_cases h21 : k = 21
      · subst h21
        go_wp2
        go_ret
        rw [HF.out]
        exact ⟨rfl, rfl⟩
      · have h22 : ¬ (k : Int) = 21 := by omega
        rw [decide_eq_false h21] at HF
        go_wp2
        go_ret
        rw [HF.out]
        exact ⟨by simp [h22], rfl⟩
set_option maxRecDepth 100000 in
theorem RRight_calls {w : World} {u : Value} {l : List Int} (src : Src w .i64 u l) (hl : l.length ≤ 1000000000) :
    Calls Try.prog 47 #[u] w fun e w' => e = .returned (.bool (rightB l)) ∧ w' = w := by
  obtain ⟨A, c, rfl, h⟩ := src
  have H := Lib.hid h
  have HL : Hid (l.length = l.length) := Lib.hid rfl
  clear h
  obtain ⟨n, hn⟩ : ∃ n, l.length = n := ⟨_, rfl⟩
  rw [hn] at hl ⊢
  have HN := Lib.hid hn
  clear hn HL
  go_enter Try.func47, Try.ntmps47
  go_wp2
  go_loopw [3] (fun u wr => ∃ k : Nat, k ≤ n ∧ u = .int .i64 (k : Int) ∧ Hid (rightB l = ((l.drop k).all okc && decide (l.length = 21))) ∧ wr = w) (fun u _ => n - (intOf u).toNat)
  case atStart => exact ⟨0, by omega, rfl, rfl, rfl⟩
  case round =>
    obtain ⟨k, hk, rfl, HR, rfl⟩ := hrel
    by_cases hlt : k < n
    · obtain ⟨ad, rfl, hc⟩ := H.out (by rw [HN.out]; omega)
      have dk := hc k (by rw [HN.out]; omega)
      have HA := Lib.hid (all_drop l k (by rw [HN.out]; omega))
      have ik : (k : Int) < (n : Int) := by omega
      clear hc
      generalize l[k]'(by rw [HN.out]; omega) = x at *
      by_cases h1 : x < 0
      · have HF : Hid (rightB l = false) := Lib.hid (by rw [HR.out, HA.out]; unfold okc; rw [decide_eq_false (by omega)]; rfl)
        go_wp2
        go_ret
        rw [HF.out]
        exact ⟨rfl, rfl⟩
      by_cases h2 : 26 < x
      · have HF : Hid (rightB l = false) := Lib.hid (by rw [HR.out, HA.out]; unfold okc; rw [decide_eq_false (by omega)]; rfl)
        go_wp2
        go_ret
        rw [HF.out]
        exact ⟨rfl, rfl⟩
      have HT : Hid (rightB l = ((l.drop (k + 1)).all okc && decide (l.length = 21))) := Lib.hid (by rw [HR.out, HA.out]; unfold okc; rw [decide_eq_true (show 0 ≤ x ∧ x ≤ 26 by omega), Bool.true_and])
      go_wp2
      go_roundw
      case rel => exact ⟨k + 1, by omega, by push_cast; rfl, HT, trivial⟩
      case measure => simp [intOf]; omega
    · obtain rfl : k = n := by omega
      have HF : Hid (rightB l = decide (k = 21)) := Lib.hid (by rw [HR.out, List.drop_of_length_le (by rw [HN.out]; omega), HN.out]; rfl)
      by_cases h21 : k = 21
      · subst h21
        go_wp2
        go_ret
        rw [HF.out]
        exact ⟨rfl, rfl⟩
      · have h22 : ¬ (k : Int) = 21 := by omega
        rw [decide_eq_false h21] at HF
        go_wp2
        go_ret
        rw [HF.out]
        exact ⟨by simp [h22], rfl⟩
/-- How often a ceiling differs by so much. -/
def apf (i : Nat) : Int := if min i (32 - i) = 0 then 3000 else if min i (32 - i) = 1 then 1500 else if min i (32 - i) = 2 then 500 else 10
def AP : List Int := [3000, 1500, 500, 10, 10, 10, 10, 10, 10, 10, 10, 10, 10, 10, 10, 10, 10, 10, 10, 10, 10, 10, 10, 10, 10, 10, 10, 10, 10, 10, 500, 1500]
theorem ap_fill : fillTo apf 32 32 = AP := by decide +kernel
theorem ap_good : Mdl.Good AP := ⟨by decide, by decide, by decide, by decide⟩
set_option maxHeartbeats 1000000 in
set_option maxRecDepth 100000 in
theorem apart_calls (w : World) : Calls Try.prog 77 #[] w fun e w' => ∃ m h cap, e = .returned (.pointer (some ⟨m, 0, none⟩)) ∧ w.heap.size ≤ m ∧ w.heap.size ≤ h ∧ Mdl.Is w' m h cap AP true ∧ Below w.heap.size w w' := by
  have hm : ∀ w : World, (Instr.makeSlice 45 (.int .i64 32) (.int .i64 32)).run Try.prog w = .ok (.slice (some ⟨w.heap.size, 0, none⟩) 32 32) (w.alloc (.cells (madeCells #[.int .u32 0] 32) 22)) := fun w => run_make_row' 45 22 (.int .u32 0) 4 Try.underlying45 (by kernel_rfl) rfl .i64 .i64 32 (by omega) (by omega) w
  go_enter Try.func77, Try.ntmps77
  go_wp2_with fail
  go_loopw [8] (fun u wr => ∃ k : Nat, k ≤ 32 ∧ u = .int .i64 (k : Int) ∧ Hid (RowI wr 22 .u32 w.heap.size 32 (fillTo apf 32 k)) ∧ Hid (Below w.heap.size w wr)) (fun u _ => 32 - (intOf u).toNat)
  case atStart => exact ⟨0, by omega, rfl, Lib.hid (by rw [fillTo_zero]; exact RowI.new w _ _ 32 0 (by decide)), ((Below.refl _ _).alloc (Nat.le_refl _) _ : Below _ _ _)⟩
  case round =>
    obtain ⟨k, hk, rfl, HR, HB⟩ := hrel
    by_cases hlt : k < 32
    · have dk := HR.out.cell (i := k) (by rw [fillTo_len]; exact hlt)
      have fk := HR.out.free k
      have HS := Lib.hid (fillTo_set apf 32 k)
      generalize (fillTo apf 32 k)[k]'(by rw [fillTo_len]; exact hlt) = y at *
      by_cases c0 : k = 0
      · subst c0
        have HV : Hid (apf 0 = 3000) := Lib.hid (by decide)
        rw [HV.out] at HS
        go_wp2_with fail
        go_roundw
        case rel => exact ⟨1, by omega, rfl, Lib.hid (by rw [← HS.out]; exact HR.out.set 0 _), (HB.out.setCell (p := ⟨w.heap.size, 0, none⟩) (Nat.le_refl _) _ : Below _ _ _)⟩
        case measure => simp [intOf]
      by_cases c1 : k = 1 ∨ k = 31
      · obtain ⟨z, hz⟩ : ∃ z : Int, z = min (k : Int) (32 - (k : Int)) := ⟨_, rfl⟩
        have m1 : min (k : Int) (32 - (k : Int)) = z := hz.symm
        have m2 : mn (k : Int) (32 - (k : Int)) = z := by rw [hz]; unfold mn; omega
        have m3 : (if (32 : Int) - (k : Int) < (k : Int) then (32 : Int) - (k : Int) else (k : Int)) = z := by omega
        obtain rfl : z = 1 := by omega
        have HV : Hid (apf k = 1500) := Lib.hid (by unfold apf; rw [if_neg (by omega), if_pos (by omega)])
        rw [HV.out] at HS
        clear hz
        go_wp2_with fail
        go_roundw
        case rel => exact ⟨k + 1, by omega, by push_cast; rfl, Lib.hid (by rw [← HS.out]; exact HR.out.set k _), (HB.out.setCell (p := ⟨w.heap.size, k, none⟩) (Nat.le_refl _) _ : Below _ _ _)⟩
        case measure => simp [intOf]; omega
      by_cases c2 : k = 2 ∨ k = 30
      · obtain ⟨z, hz⟩ : ∃ z : Int, z = min (k : Int) (32 - (k : Int)) := ⟨_, rfl⟩
        have m1 : min (k : Int) (32 - (k : Int)) = z := hz.symm
        have m2 : mn (k : Int) (32 - (k : Int)) = z := by rw [hz]; unfold mn; omega
        have m3 : (if (32 : Int) - (k : Int) < (k : Int) then (32 : Int) - (k : Int) else (k : Int)) = z := by omega
        obtain rfl : z = 2 := by omega
        have HV : Hid (apf k = 500) := Lib.hid (by unfold apf; rw [if_neg (by omega), if_neg (by omega), if_pos (by omega)])
        rw [HV.out] at HS
        clear hz
        go_wp2_with fail
        go_roundw
        case rel => exact ⟨k + 1, by omega, by push_cast; rfl, Lib.hid (by rw [← HS.out]; exact HR.out.set k _), (HB.out.setCell (p := ⟨w.heap.size, k, none⟩) (Nat.le_refl _) _ : Below _ _ _)⟩
        case measure => simp [intOf]; omega
      · obtain ⟨z, hz⟩ : ∃ z : Int, z = min (k : Int) (32 - (k : Int)) := ⟨_, rfl⟩
        have m1 : min (k : Int) (32 - (k : Int)) = z := hz.symm
        have m2 : mn (k : Int) (32 - (k : Int)) = z := by rw [hz]; unfold mn; omega
        have m3 : (if (32 : Int) - (k : Int) < (k : Int) then (32 : Int) - (k : Int) else (k : Int)) = z := by omega
        have z0 : ¬ z = 0 := by omega
        have z1 : ¬ z = 1 := by omega
        have z2 : ¬ z = 2 := by omega
        have HV : Hid (apf k = 10) := Lib.hid (by unfold apf; rw [if_neg (by omega), if_neg (by omega), if_neg (by omega)])
        rw [HV.out] at HS
        clear hz
        go_wp2_with fail
        go_roundw
        case rel => exact ⟨k + 1, by omega, by push_cast; rfl, Lib.hid (by rw [← HS.out]; exact HR.out.set k _), (HB.out.setCell (p := ⟨w.heap.size, k, none⟩) (Nat.le_refl _) _ : Below _ _ _)⟩
        case measure => simp [intOf]; omega
    · obtain rfl : k = 32 := by omega
      rw [ap_fill] at HR
      have FX := Lib.hid (Mdl.Fixed_yes AP ap_good (some ⟨w.heap.size, 0, none⟩) 32 wr (C_of_rowI HR.out) (by decide))
      go_wp2_with fail
      refine FX.out.mono ?_
      rintro e w2 ⟨m, h, cap, rfl, h1, h2, hi, hb⟩
      have HI := Lib.hid hi
      have HB2 : Hid (Below w.heap.size w w2) := Lib.hid (HB.out.trans (hb.mono HB.out.size))
      have hs := HB.out.size
      clear hi hb
      go_wp2_with fail
      go_ret
      exact ⟨m, h, cap, rfl, by omega, by omega, HI.out, HB2.out⟩
set_option maxHeartbeats 1000000 in
set_option maxRecDepth 100000 in
theorem rapart_calls (w : World) : Calls Try.prog 78 #[] w fun e w' => ∃ m h cap, e = .returned (.pointer (some ⟨m, 0, none⟩)) ∧ w.heap.size ≤ m ∧ w.heap.size ≤ h ∧ Mdl.IsR w' m h cap AP true ∧ Below w.heap.size w w' := by
  go_enter Try.func78, Try.ntmps78
  go_wp2_with fail
  have hs1 : (w.alloc (.cells #[.int .u32 3000, .int .u32 1500, .int .u32 500] 22)).heap.size = w.heap.size + 1 := by simp
  have hR0 : RowI (w.alloc (.cells #[.int .u32 3000, .int .u32 1500, .int .u32 500] 22)) 22 .u32 w.heap.size 3 [3000, 1500, 500] :=
    ⟨_, Blk.new w _ _, by decide, by decide, rfl, fun i hi => by
      match i, hi with
      | 0, _ => rfl
      | 1, _ => rfl
      | 2, _ => rfl⟩
  have hB0 : Below w.heap.size w (w.alloc (.cells #[.int .u32 3000, .int .u32 1500, .int .u32 500] 22)) := (Below.refl _ _).alloc (Nat.le_refl _) _
  have HR0 := Lib.hid hR0
  have HB0 := Lib.hid hB0
  clear hR0 hB0 hs1
  go_loopw [1] (fun v wr => ∃ (k g cap : Nat), k ≤ 27 ∧ v = .slice (some ⟨g, 0, none⟩) (k + 3) cap ∧ w.heap.size ≤ g ∧ Hid (RowI wr 22 .u32 g cap ([3000, 1500, 500] ++ List.replicate k 10)) ∧ Hid (Below w.heap.size w wr)) (fun v _ => 30 - (match v with | .slice _ n _ => n | _ => 0))
  case atStart => exact ⟨0, w.heap.size, 3, by omega, rfl, Nat.le_refl _, HR0, HB0⟩
  case round =>
    clear HR0 HB0
    obtain ⟨k, g, cap, hk, rfl, hg, HR, HB⟩ := hrel
    have hwr := HB.out.size
    have ln : ([3000, 1500, 500] ++ List.replicate k (10 : Int)).length = k + 3 := by simp
    have lg := HR.out.lt
    by_cases hlt : k < 27
    · go_wp2_with (at_builtin
                   have hsl := Sl.row (HR.out.alloc (.cells #[.int .u32 10] 22))
                   rw [ln] at hsl
                   refine wpList_push (.tmp 8) (.tmp 9) 45 22 .u32 0 4 rfl rfl Try.underlying45 Mdl.info_u32 (.slice (some ⟨g, 0, none⟩) (k + 3) cap) ([3000, 1500, 500] ++ List.replicate k 10) (k + 3) 10 ⟨wr.heap.size, 0, none⟩ (wr.heap.size + 1) rfl rfl hsl ln ((Blk.new wr _ _).cell rfl) (by simp) (by omega) (by omega) ?_
                   intro g2 cap2 w1 hp
                   have HP := Lib.hid hp
                   clear hp hsl)
      go_roundw
      case rel =>
        refine ⟨k + 1, g2, cap2, by omega, by congr 1, ?_, Lib.hid ?_, Lib.hid ?_⟩
        · rcases HP.out.at_ with h | h
          · have h : some g = some g2 := h
            injection h with h; omega
          · omega
        · have := HP.out.row
          rw [List.append_assoc, ← List.replicate_succ'] at this
          exact this
        · exact (HB.out.alloc hwr _).trans (HP.out.only.below (B := w.heap.size) (by simp; omega) (fun i hi => by have hi : some g = some i := hi; injection hi with hi; omega))
      case measure => simp; omega
    · obtain rfl : k = 27 := by omega
      have e30 : (27 + 3 : Nat) = 30 := rfl
      rw [e30] at ln
      go_wp2_with (first
        | (at_builtin
           have hsl := Sl.row (HR.out.alloc (.cells #[.int .u32 500] 22))
           rw [ln] at hsl
           refine wpList_push (.tmp 11) (.tmp 12) 45 22 .u32 0 4 rfl rfl Try.underlying45 Mdl.info_u32 (.slice (some ⟨g, 0, none⟩) 30 cap) ([3000, 1500, 500] ++ List.replicate 27 10) 30 500 ⟨wr.heap.size, 0, none⟩ (wr.heap.size + 1) rfl rfl hsl ln ((Blk.new wr _ _).cell rfl) (by simp) (by omega) (by omega) ?_
           intro g2 cap2 w1 hp
           have HP := Lib.hid hp
           have B1 : Hid (Below w.heap.size w w1) := Lib.hid ((HB.out.alloc hwr _).trans (hp.only.below (B := w.heap.size) (by simp; omega) (fun i hi => by have hi : some g = some i := hi; injection hi with hi; omega)))
           have hg2 : w.heap.size ≤ g2 := by
             rcases hp.at_ with h | h
             · have h : some g = some g2 := h
               injection h with h; omega
             · omega
           have h1 := B1.out.size
           have lg2 := hp.row.lt
           clear hp hsl)
        | (at_builtin
           have hsl := Sl.row (HP.out.row.alloc (.cells #[.int .u32 1500] 22))
           have ln2 : ([3000, 1500, 500] ++ List.replicate 27 10 ++ [500] : List Int).length = 31 := by decide
           rw [ln2] at hsl
           refine wpList_push (.tmp 14) (.tmp 15) 45 22 .u32 0 4 rfl rfl Try.underlying45 Mdl.info_u32 (.slice (some ⟨g2, 0, none⟩) 31 cap2) ([3000, 1500, 500] ++ List.replicate 27 10 ++ [500]) 31 1500 ⟨w1.heap.size, 0, none⟩ (w1.heap.size + 1) rfl rfl hsl ln2 ((Blk.new w1 _ _).cell rfl) (by simp) (by omega) (by omega) ?_
           intro g3 cap3 w2 hp
           have HP2 := Lib.hid hp
           have B2 : Hid (Below w.heap.size w w2) := Lib.hid ((B1.out.alloc h1 _).trans (hp.only.below (B := w.heap.size) (by simp; omega) (fun i hi => by have hi : some g2 = some i := hi; injection hi with hi; omega)))
           have h2 := B2.out.size
           clear hp hsl ln2))
      have hap : ([3000, 1500, 500] ++ List.replicate 27 10 ++ [500] ++ [1500] : List Int) = AP := by decide
      have HR3 : Hid (RowI w2 22 .u32 g3 cap3 AP) := Lib.hid (by rw [← hap]; exact HP2.out.row)
      have FX := Lib.hid (Mdl.RFixed_yes AP ap_good (some ⟨g3, 0, none⟩) cap3 w2 (C_of_rowI HR3.out) HR3.out.len.1)
      refine FX.out.mono ?_
      rintro e w3 ⟨m, h, cap4, rfl, h3, h4, hi, hb⟩
      have HI := Lib.hid hi
      have HB2 : Hid (Below w.heap.size w w3) := Lib.hid (B2.out.trans (hb.mono h2))
      clear hi hb
      go_wp2_with fail
      go_ret
      exact ⟨m, h, cap4, rfl, by omega, by omega, HI.out, HB2.out⟩
/-- The lines of law 10's lives. -/
def LN : List Int := (List.replicate 512 0).set 9 (-5)
theorem ln_len : LN.length = 512 := by unfold LN; rw [List.length_set, List.length_replicate]
theorem ln_i32 : ∀ x ∈ LN, Ceil.I32 x := by
  intro x hx
  unfold LN at hx
  have : x = 0 ∨ x = -5 := by
    rcases List.mem_or_eq_of_mem_set hx with h | h
    · exact .inl (List.eq_of_mem_replicate h)
    · exact .inr h
  unfold Ceil.I32
  rcases this with h | h <;> subst h <;> decide
theorem ln_ceils : Ceil.ceils LN = [0, 0, 3, 0, 0, 0, 0, 0, 0, 0, 0, 0, 0, 0, 0, 0, 0, 0, 0, 0, 0] := by decide +kernel
set_option maxHeartbeats 1000000 in
set_option maxRecDepth 100000 in
theorem lives_calls (w : World) : Calls Try.prog 40 #[] w fun e w' => e = .returned (.bool true) ∧ Below w.heap.size w w' := by
  have hm : ∀ w : World, (Instr.makeSlice 86 (.int .i64 512) (.int .i64 512)).run Try.prog w = .ok (.slice (some ⟨w.heap.size, 0, none⟩) 512 512) (w.alloc (.cells (madeCells #[.int .i32 0] 512) 21)) := fun w => run_make_row' 86 21 (.int .i32 0) 4 Try.underlying86 (by kernel_rfl) rfl .i64 .i64 512 (by omega) (by omega) w
  have r0 := RowI.new w 21 .i32 512 0 (by decide)
  have d9 := r0.cell (i := 9) (by rw [List.length_replicate]; omega)
  have f9 := r0.free 9
  have hr : RowI ((w.alloc (.cells (madeCells #[.int .i32 0] 512) 21)).setCell ⟨w.heap.size, 9, none⟩ (.int .i32 (-5))) 21 .i32 w.heap.size 512 LN := r0.set 9 (-5)
  have HR := Lib.hid hr
  have HB : Hid (Below w.heap.size w ((w.alloc (.cells (madeCells #[.int .i32 0] 512) 21)).setCell ⟨w.heap.size, 9, none⟩ (.int .i32 (-5)))) := Lib.hid ((((Below.refl _ _).alloc (Nat.le_refl _) _ : Below _ _ _)).setCell (p := ⟨w.heap.size, 9, none⟩) (Nat.le_refl _) _)
  have hw : (w.alloc (.cells (madeCells #[.int .i32 0] 512) 21)).setCell ⟨w.heap.size, 9, none⟩ (.int .i32 (-5)) = w.alloc (.cells ((madeCells #[.int .i32 0] 512).setIfInBounds 9 (.int .i32 (-5))) 21) := World.setCell_alloc_new _ _ _ _
  rw [hw] at HR HB
  clear r0 hr hw
  generalize (List.replicate 512 (0 : Int))[9]'(by rw [List.length_replicate]; omega) = y at *
  go_enter Try.func40, Try.ntmps40
  go_wp2_with fail
  have CL := Lib.hid (Ceil.Ceilings_yes LN ln_len ln_i32 (some ⟨w.heap.size, 0, none⟩) 512 _ (C_of_rowI HR.out) (by rw [ln_len]; decide))
  rw [ln_len] at CL
  refine CL.out.mono ?_
  rintro e1 w1 ⟨g, cap, rfl, hg, hr, hb⟩
  have R1 : Hid (RowI w1 3 .i64 g cap [0, 0, 3, 0, 0, 0, 0, 0, 0, 0, 0, 0, 0, 0, 0, 0, 0, 0, 0, 0, 0]) := Lib.hid (by rw [← ln_ceils]; exact hr)
  have B1 : Hid (Below w.heap.size w w1) := Lib.hid (HB.out.trans (hb.mono HB.out.size))
  clear hr hb CL HR HB d9 f9
  have c0 := R1.out.cell (i := 0) (by decide)
  have c2 := R1.out.cell (i := 2) (by decide)
  simp only [List.getElem_cons_zero, List.getElem_cons_succ] at c0 c2
  have RC := Lib.hid (Right_calls (Src.of_sl (Sl.row R1.out)) (by decide))
  have e21 : ([0, 0, 3, 0, 0, 0, 0, 0, 0, 0, 0, 0, 0, 0, 0, 0, 0, 0, 0, 0, 0] : List Int).length = 21 := rfl
  have er : rightB [0, 0, 3, 0, 0, 0, 0, 0, 0, 0, 0, 0, 0, 0, 0, 0, 0, 0, 0, 0, 0] = true := by decide
  rw [e21, er] at RC
  go_wp2_with fail
  refine RC.out.mono ?_
  rintro e2 w2 ⟨rfl, he⟩
  subst w2
  go_wp2_with fail
  go_ret
  exact ⟨rfl, B1.out⟩
theorem lives_on {B : Nat} {w0 w : World} (h : Below B w0 w) (hB : B ≤ w.heap.size) : Calls Try.prog 40 #[] w fun e w' => e = .returned (.bool true) ∧ Below B w0 w' :=
  (lives_calls w).mono fun e w' ⟨he, hb⟩ => ⟨he, h.trans (hb.mono hB)⟩
end Go.Proofs.Ytlbjoflmfboeeaa.Erg

/-
  The walks of energy.Put and of the document's; no condition but those told.
-/
set_option linter.unusedVariables false
set_option linter.unusedSimpArgs false
namespace Go.Proofs.Ytlbjoflmfboeeaa.Erg
open Go.RowKit Go.Proofs.Ytlbjoflmfboeeaa Go.Proofs.YtlbjoflmfboeeaaW.PrintWords

/-- Ceilings that are right. -/
structure Rt (l : List Int) : Prop where
  len : l.length = 21
  bd : ∀ k (h : k < l.length), 0 ≤ l[k] ∧ l[k] ≤ 26
theorem right_rt {l : List Int} (h : rightB l = true) : Rt l := by
  unfold rightB at h
  rw [Bool.and_eq_true, decide_eq_true_eq, List.all_eq_true] at h
  refine ⟨h.2, fun k hk => ?_⟩
  have := h.1 _ (List.getElem_mem hk)
  unfold okc at this
  rwa [decide_eq_true_eq] at this
theorem rt_right {l : List Int} (h : Rt l) : rightB l = true := by
  unfold rightB
  rw [Bool.and_eq_true, decide_eq_true_eq, List.all_eq_true]
  refine ⟨fun x hx => ?_, h.len⟩
  obtain ⟨k, hk, rfl⟩ := List.getElem_of_mem hx
  unfold okc
  rw [decide_eq_true_eq]
  exact h.bd k hk
theorem Rt.getD {l : List Int} (h : Rt l) (k : Nat) : 0 ≤ l.getD k 0 ∧ l.getD k 0 ≤ 26 := by
  rw [List.getD_eq_getElem?_getD]
  by_cases hk : k < l.length
  · rw [List.getElem?_eq_getElem hk]; exact h.bd k hk
  · rw [List.getElem?_eq_none (by omega)]; decide
/-- The symbol of a difference. -/
def dif (l ah : List Int) (k : Nat) : Nat := ((l.getD k 0 - ah.getD k 0 + 32) % 32).toNat
theorem dif_lt (l ah : List Int) (k : Nat) : dif l ah k < AP.length := by
  show dif l ah k < 32
  unfold dif; omega
/-- The encoder's state behind k ceilings. -/
def eput (s : Enc.St) (l ah : List Int) : Nat → Enc.St
  | 0 => s
  | k + 1 => if ah.length = 0 then Enc.bitsS (eput s l ah k) (l.getD k 0) 5 else Enc.symS (eput s l ah k) AP (dif l ah k)
def reput (R : Enc.RSt) (l ah : List Int) : Nat → Enc.RSt
  | 0 => R
  | k + 1 => if ah.length = 0 then Enc.rbitsS (reput R l ah k) (l.getD k 0) 5 else Enc.rsymS (reput R l ah k) AP (dif l ah k)
theorem eput_ready {s : Enc.St} (ok : s.Ready) (l ah : List Int) (k : Nat) : (eput s l ah k).Ready ∧ (eput s l ah k).k ≤ s.k + 4 * k := by
  induction k with
  | zero => exact ⟨ok, Nat.le_refl _⟩
  | succ k ih =>
    unfold eput
    split
    · have := Enc.bitsS_ready ih.1 (l.getD k 0) 5 (by decide)
      exact ⟨this.1, by have := this.2.2; omega⟩
    · have := Enc.symS_ready ih.1 ap_good (dif_lt l ah k)
      exact ⟨this.1, by have := this.2.2; omega⟩
theorem reput_good {R : Enc.RSt} (ok : Enc.RGood R) (l ah : List Int) (k : Nat) : Enc.RGood (reput R l ah k) ∧ (reput R l ah k).K ≤ R.K + 4 * k := by
  induction k with
  | zero => exact ⟨ok, Nat.le_refl _⟩
  | succ k ih =>
    unfold reput
    split
    · have := Enc.rbitsS_good ih.1 (l.getD k 0) 5 (by decide)
      exact ⟨this.1, by have := this.2.2; omega⟩
    · have := Enc.rsymS_good ih.1 ap_good (dif_lt l ah k)
      exact ⟨this.1, by have := this.2.2; omega⟩
theorem eput_rel {s : Enc.St} {R : Enc.RSt} (h : Enc.Rel s R) (g : Enc.RGood R) (l ah : List Int) (k : Nat) : Enc.Rel (eput s l ah k) (reput R l ah k) := by
  induction k with
  | zero => exact h
  | succ k ih =>
    unfold eput reput
    split
    · exact Enc.bitsS_rel ih (reput_good g l ah k).1 _ 5 (by decide)
    · exact Enc.symS_rel ih (reput_good g l ah k).1 ap_good (dif_lt l ah k)
theorem next_fixed (L : List Int) (k : Nat) : Mdl.next true L k = L := by unfold Mdl.next; rw [if_pos rfl]
attribute [local irreducible] Enc.bitsS Enc.symS AP Enc.rbitsS Enc.rsymS
/-- A slice that is read lies apart from the encoder. -/
def Apart (u : Value) (e : Nat) (v : Value) (B : Nat) : Prop := ∀ g, u.ownBlock = some g → g ≠ e ∧ v.ownBlock ≠ some g ∧ g < B
theorem Put_nil (u ua : Value) (w : World) : Calls Try.prog 42 #[.pointer none, u, ua] w fun en w' => en = .returned (.int .i64 1) ∧ w' = w := by
  go_enter Try.func42, Try.ntmps42
  go_wp2
  go_ret
  exact ⟨rfl, rfl⟩
set_option maxRecDepth 100000 in
theorem Put_bad {w : World} (e : Nat) {u ua : Value} {l ah : List Int} (src : Src w .i64 u l) (hl : l.length ≤ 1000000000) (srca : Src w .i64 ua ah) (hal : ah.length ≤ 1000000000)
    (h : rightB l = false ∨ (0 < ah.length ∧ rightB ah = false)) :
    Calls Try.prog 42 #[.pointer (some ⟨e, 0, none⟩), u, ua] w fun en w' => en = .returned (.int .i64 1) ∧ w' = w := by
  have C1 := Lib.hid (Right_calls src hl)
  have C2 := Lib.hid (Right_calls srca hal)
  cases hr : rightB l with
  | false =>
    rw [hr] at C1
    clear h hr
    go_enter Try.func42, Try.ntmps42
    go_wp2_with fail
    refine C1.out.mono ?_
    rintro e1 w1 ⟨rfl, he⟩
    subst w1
    go_wp2_with fail
    go_ret
    exact ⟨rfl, rfl⟩
  | true =>
    have h2 : 0 < ah.length ∧ rightB ah = false := by
      rcases h with h | h
      · rw [hr] at h; cases h
      · exact h
    obtain ⟨h2, h3⟩ := h2
    rw [hr] at C1
    rw [h3] at C2
    clear h hr h3
    obtain ⟨A, c, rfl, _⟩ := srca
    have ih : (0 : Int) < (ah.length : Int) := by omega
    go_enter Try.func42, Try.ntmps42
    go_wp2_with fail
    refine C1.out.mono ?_
    rintro e1 w1 ⟨rfl, he⟩
    subst w1
    go_wp2_with fail
    refine C2.out.mono ?_
    rintro e1 w1 ⟨rfl, he⟩
    subst w1
    go_wp2_with fail
    go_ret
    exact ⟨rfl, rfl⟩
set_option maxHeartbeats 2000000 in
set_option maxRecDepth 100000 in
theorem Put_yes {w : World} {e : Nat} {s : Enc.St} {v : Value} (a : Enc.Is w e s v) (ok : s.Ready) (small : s.k ≤ 700000000) {u ua : Value} {l ah : List Int} (src : Src w .i64 u l) (rl : Rt l) (srca : Src w .i64 ua ah) (ra : ah.length = 0 ∨ Rt ah)
    (ap1 : Apart u e v w.heap.size) (ap2 : 0 < ah.length → Apart ua e v w.heap.size) :
    Calls Try.prog 42 #[.pointer (some ⟨e, 0, none⟩), u, ua] w fun en w' => ∃ v', en = .returned (.int .i64 0) ∧ Enc.Is w' e (eput s l ah 21) v' ∧ Enc.Step e v v' w w' := by
  have C1 := Lib.hid (Right_calls src (by rw [rl.len]; decide))
  rw [rt_right rl] at C1
  have A := Lib.hid a
  have RL := Lib.hid rl
  have OK := Lib.hid ok
  have S1 := Lib.hid src
  have S2 := Lib.hid srca
  have AP1 := Lib.hid ap1
  have AP2 := Lib.hid ap2
  have hle := a.blk.lt
  have vlt : Hid (∀ g, v.ownBlock = some g → g < w.heap.size) := Lib.hid (fun g hg => a.sl.lt hg)
  obtain ⟨uA, uc, rfl, _⟩ := src
  obtain ⟨aA, ac, rfl, _⟩ := srca
  rw [rl.len] at C1 S1 AP1 ⊢
  clear a rl ok ap1 ap2
  by_cases h0 : ah.length = 0
  · have HN : Hid (ah.length = 0) := Lib.hid h0
    rw [h0] at S2 AP2 ⊢
    clear h0 ra
    go_enter Try.func42, Try.ntmps42
    go_wp2_with fail
    refine C1.out.mono ?_
    rintro e1 w1 ⟨rfl, he⟩
    subst w1
    go_wp2_with fail
    refine (apart_calls _).mono ?_
    rintro e2 w2 ⟨m, h, cap, rfl, hm, hh, _, b2⟩
    have A2 := Lib.hid (A.out.below b2)
    have T2 := Lib.hid ((Enc.Step.refl e v w).below b2)
    clear b2
    go_wp2_with fail
    go_loopw [30] (fun i wr => ∃ (k : Nat) (v' : Value), k ≤ 21 ∧ i = .int .i64 (k : Int) ∧ Hid (Enc.Is wr e (eput s l ah k) v') ∧ Hid (Enc.Step e v v' w wr)) (fun i _ => 21 - (intOf i).toNat)
    case atStart => exact ⟨0, v, by omega, rfl, A2, T2⟩
    case round =>
      clear A2 T2
      obtain ⟨k, v', hk, rfl, A2, T2⟩ := hrel
      by_cases hlt : k < 21
      · obtain ⟨ad, rfl, dk⟩ := (S1.out.same (w' := wr) (fun g hg _ => T2.out.only.block g (AP1.out g hg).2.2 (fun hx => by
          rcases hx with hx | hx
          · exact (AP1.out g hg).1 hx
          · exact (AP1.out g hg).2.1 hx))).cell (j := k) (by rw [RL.out.len]; exact hlt)
        have bd := RL.out.bd k (by rw [RL.out.len]; exact hlt)
        have HX : Hid (l.getD k 0 = l[k]'(by rw [RL.out.len]; exact hlt)) := Lib.hid (Dig.getD_get l k _)
        have ER := Lib.hid (eput_ready OK.out l ah k)
        have HS : Hid (eput s l ah (k + 1) = Enc.bitsS (eput s l ah k) (l.getD k 0) 5) := Lib.hid (by show (if ah.length = 0 then _ else _) = _; rw [if_pos HN.out])
        rw [HX.out] at HS
        have ik : (k : Int) < 21 := by omega
        generalize l[k]'(by rw [RL.out.len]; exact hlt) = x at *
        have w1 : IntKind.u32.wrap x = x := Enc.wraps_u32 _ (by omega) (by omega)
        have BT := Lib.hid (Enc.Bits_yes A2.out ER.out.1 (by have := ER.out.2; omega) x 5 bd.1 (Int.lt_of_le_of_lt bd.2 (by decide)) (by decide))
        go_wp2_with fail
        refine BT.out.mono ?_
        rintro e3 w3 ⟨v3, rfl, a3, t3⟩
        have A3 := Lib.hid a3
        have T3 := Lib.hid (T2.out.trans t3)
        clear a3 t3 BT A2 T2
        go_wp2_with fail
        go_roundw
        case rel => exact ⟨k + 1, v3, by omega, by push_cast; rfl, Lib.hid (by rw [HS.out]; exact A3.out), T3⟩
        case measure => simp [intOf]; omega
      · obtain rfl : k = 21 := by omega
        go_wp2_with fail
        go_ret
        exact ⟨v', rfl, A2.out, T2.out⟩
  · have RA : Hid (Rt ah) := Lib.hid (by rcases ra with h | h; exact absurd h h0; exact h)
    have C2 := Lib.hid (Right_calls S2.out (by rw [RA.out.len]; decide))
    rw [rt_right RA.out] at C2
    have AP3 := Lib.hid (AP2.out (by omega))
    rw [RA.out.len] at S2 AP3 C2 ⊢
    clear h0 ra AP2
    go_enter Try.func42, Try.ntmps42
    go_wp2_with fail
    refine C1.out.mono ?_
    rintro e1 w1 ⟨rfl, he⟩
    subst w1
    go_wp2_with fail
    refine C2.out.mono ?_
    rintro e1 w1 ⟨rfl, he⟩
    subst w1
    go_wp2_with fail
    refine (apart_calls _).mono ?_
    rintro e2 w2 ⟨m, h, cap, rfl, hm, hh, mi, b2⟩
    have A2 := Lib.hid (A.out.below b2)
    have M2 := Lib.hid mi
    have T2 := Lib.hid ((Enc.Step.refl e v w).below b2)
    clear b2 mi
    go_wp2_with fail
    go_loopw [30] (fun i wr => ∃ (k : Nat) (v' : Value), k ≤ 21 ∧ i = .int .i64 (k : Int) ∧ Hid (Enc.Is wr e (eput s l ah k) v') ∧ Hid (Mdl.Is wr m h cap AP true) ∧ Hid (Enc.Step e v v' w wr) ∧ (∀ g, v'.ownBlock = some g → g ≠ m ∧ g ≠ h)) (fun i _ => 21 - (intOf i).toNat)
    case atStart => exact ⟨0, v, by omega, rfl, A2, M2, T2, fun g hg => by have := vlt.out g hg; omega⟩
    case round =>
      clear A2 T2 M2
      obtain ⟨k, v', hk, rfl, A2, M2, T2, nv⟩ := hrel
      by_cases hlt : k < 21
      · obtain ⟨ad, rfl, dk⟩ := (S1.out.same (w' := wr) (fun g hg _ => T2.out.only.block g (AP1.out g hg).2.2 (fun hx => by
          rcases hx with hx | hx
          · exact (AP1.out g hg).1 hx
          · exact (AP1.out g hg).2.1 hx))).cell (j := k) (by rw [RL.out.len]; exact hlt)
        obtain ⟨ad2, rfl, dk2⟩ := (S2.out.same (w' := wr) (fun g hg _ => T2.out.only.block g (AP3.out g hg).2.2 (fun hx => by
          rcases hx with hx | hx
          · exact (AP3.out g hg).1 hx
          · exact (AP3.out g hg).2.1 hx))).cell (j := k) (by rw [RA.out.len]; exact hlt)
        have bd := RL.out.bd k (by rw [RL.out.len]; exact hlt)
        have bd2 := RA.out.bd k (by rw [RA.out.len]; exact hlt)
        have HX : Hid (l.getD k 0 = l[k]'(by rw [RL.out.len]; exact hlt)) := Lib.hid (Dig.getD_get l k _)
        have HX2 : Hid (ah.getD k 0 = ah[k]'(by rw [RA.out.len]; exact hlt)) := Lib.hid (Dig.getD_get ah k _)
        have ER := Lib.hid (eput_ready OK.out l ah k)
        have HS : Hid (eput s l ah (k + 1) = Enc.symS (eput s l ah k) AP (dif l ah k)) := Lib.hid (by show (if ah.length = 0 then _ else _) = _; rw [if_neg (by rw [RA.out.len]; decide)])
        have HD : Hid (dif l ah k = ((l.getD k 0 - ah.getD k 0 + 32) % 32).toNat) := Lib.hid rfl
        have HDL := Lib.hid (dif_lt l ah k)
        rw [HX.out, HX2.out] at HD
        have ik : (k : Int) < 21 := by omega
        generalize l[k]'(by rw [RL.out.len]; exact hlt) = x at *
        generalize ah[k]'(by rw [RA.out.len]; exact hlt) = y at *
        obtain ⟨q, hq⟩ : ∃ q, dif l ah k = q := ⟨_, rfl⟩
        rw [hq] at HS HD HDL
        have hd := HD.out
        have e0 : (x - y + 32) % 32 = (q : Int) := by omega
        have e1 : Int.tmod (x - y + 32) 32 = (q : Int) := by rw [Int.tmod_eq_emod_of_nonneg (by omega)]; exact e0
        have w1 : IntKind.i64.wrap (q : Int) = (q : Int) := wrapI64 (by omega) (by omega)
        clear hq hd
        have BT := Lib.hid (Enc.Symbol_yes A2.out ER.out.1 (by have := ER.out.2; omega) M2.out ap_good q HDL.out (by omega) (by omega) (fun hx => (nv _ hx).1 rfl) (fun hx => (nv _ hx).2 rfl))
        go_wp2_with fail
        refine BT.out.mono ?_
        rintro e3 w3 ⟨v3, rfl, a3, m3, o3, own3⟩
        have A3 := Lib.hid a3
        have M3 : Hid (Mdl.Is w3 m h cap AP true) := Lib.hid (by rw [next_fixed] at m3; exact m3)
        have lm := M2.out.blk.lt
        have lh := M2.out.row.lt
        have nv3 : ∀ g, v3.ownBlock = some g → g ≠ m ∧ g ≠ h := fun g hg => by
          rcases own3 g hg with h1 | h1
          · exact nv g h1
          · omega
        have T3 : Hid (Enc.Step e v v3 w w3) := Lib.hid ⟨T2.out.only.then o3 (fun i hi => by
          rcases hi with (hi | hi) | hi
          · exact .inl (.inl hi)
          · rcases T2.out.own i hi with h1 | h1
            · exact .inl (.inr h1)
            · exact .inr h1
          · exact .inr (by omega)), fun g hg => by
          rcases own3 g hg with h1 | h1
          · exact T2.out.own g h1
          · exact .inr (Nat.le_trans T2.out.only.size h1)⟩
        clear a3 m3 o3 own3 BT A2 T2 M2 nv
        go_wp2_with fail
        go_roundw
        case rel => exact ⟨k + 1, v3, by omega, by push_cast; rfl, Lib.hid (by rw [HS.out]; exact A3.out), M3, T3, nv3⟩
        case measure => simp [intOf]; omega
      · obtain rfl : k = 21 := by omega
        go_wp2_with fail
        go_ret
        exact ⟨v', rfl, A2.out, T2.out⟩
/-- A slice that is read lies apart from the document's encoder. -/
def RApart (u : Value) (e gb B : Nat) : Prop := ∀ g, u.ownBlock = some g → g ≠ e ∧ g ≠ gb ∧ g < B
def PPost (e gb : Nat) (R : Enc.RSt) (w : World) (en : Ending) (w' : World) : Prop := ∃ g' c', en = .returned (.tuple #[]) ∧ Enc.RIs w' e R g' c' ∧ Enc.RStep e gb g' w w'
set_option maxHeartbeats 2000000 in
set_option maxRecDepth 100000 in
theorem RPut_yes {w : World} {e gb cb : Nat} {R : Enc.RSt} (a : Enc.RIs w e R gb cb) (ok : Enc.RGood R) (small : R.K ≤ 700000000) {u ua : Value} {l ah : List Int} (src : Src w .i64 u l) (rl : Rt l) (srca : Src w .i64 ua ah) (ra : ah.length = 0 ∨ Rt ah)
    (ap1 : RApart u e gb w.heap.size) (ap2 : 0 < ah.length → RApart ua e gb w.heap.size) :
    Calls Try.prog 43 #[.pointer (some ⟨e, 0, none⟩), u, ua] w (PPost e gb (reput R l ah 21) w) := by
  have A := Lib.hid a
  have RL := Lib.hid rl
  have OK := Lib.hid ok
  have S1 := Lib.hid src
  have S2 := Lib.hid srca
  have AP1 := Lib.hid ap1
  have AP2 := Lib.hid ap2
  have hle := a.blk.lt
  have vlt := a.row.lt
  obtain ⟨uA, uc, rfl, _⟩ := src
  obtain ⟨aA, ac, rfl, _⟩ := srca
  rw [rl.len] at S1 AP1 ⊢
  clear a rl ok ap1 ap2
  by_cases h0 : ah.length = 0
  · have HN : Hid (ah.length = 0) := Lib.hid h0
    rw [h0] at S2 AP2 ⊢
    clear h0 ra
    go_enter Try.func43, Try.ntmps43
    go_wp2_with fail
    refine (rapart_calls _).mono ?_
    rintro e2 w2 ⟨m, h, cap, rfl, hm, hh, _, b2⟩
    have A2 := Lib.hid (A.out.only (Only.of_below b2 : Only (fun _ => False) _ _) (fun x => x) (fun x => x))
    have T2 := Lib.hid ((Enc.RStep.refl e gb w).below b2)
    clear b2
    go_wp2_with fail
    go_loopw [7] (fun i wr => ∃ (k : Nat) (g' c' : Nat), k ≤ 21 ∧ i = .int .i64 (k : Int) ∧ Hid (Enc.RIs wr e (reput R l ah k) g' c') ∧ Hid (Enc.RStep e gb g' w wr)) (fun i _ => 21 - (intOf i).toNat)
    case atStart => exact ⟨0, gb, cb, by omega, rfl, A2, T2⟩
    case round =>
      clear A2 T2
      obtain ⟨k, g', c', hk, rfl, A2, T2⟩ := hrel
      by_cases hlt : k < 21
      · obtain ⟨ad, rfl, dk⟩ := (S1.out.same (w' := wr) (fun g hg _ => T2.out.only.block g (AP1.out g hg).2.2 (fun hx => by
          rcases hx with hx | hx
          · exact (AP1.out g hg).1 hx
          · exact (AP1.out g hg).2.1 hx))).cell (j := k) (by rw [RL.out.len]; exact hlt)
        have bd := RL.out.bd k (by rw [RL.out.len]; exact hlt)
        have HX : Hid (l.getD k 0 = l[k]'(by rw [RL.out.len]; exact hlt)) := Lib.hid (Dig.getD_get l k _)
        have ER := Lib.hid (reput_good OK.out l ah k)
        have HS : Hid (reput R l ah (k + 1) = Enc.rbitsS (reput R l ah k) (l.getD k 0) 5) := Lib.hid (by show (if ah.length = 0 then _ else _) = _; rw [if_pos HN.out])
        rw [HX.out] at HS
        have ik : (k : Int) < 21 := by omega
        generalize l[k]'(by rw [RL.out.len]; exact hlt) = x at *
        have BT := Lib.hid (Enc.RBits_yes A2.out ER.out.1 (by have := ER.out.2; omega) x 5 bd.1 (Int.lt_of_le_of_lt bd.2 (by decide)) (by decide))
        go_wp2_with fail
        refine BT.out.mono ?_
        rintro e3 w3 ⟨g3, c3, rfl, a3, t3⟩
        have A3 := Lib.hid a3
        have T3 := Lib.hid (T2.out.trans t3)
        clear a3 t3 BT A2 T2
        go_wp2_with fail
        go_roundw
        case rel => exact ⟨k + 1, g3, c3, by omega, by push_cast; rfl, Lib.hid (by rw [HS.out]; exact A3.out), T3⟩
        case measure => simp [intOf]; omega
      · obtain rfl : k = 21 := by omega
        go_wp2_with fail
        exact bodyPost_end (results_none rfl _ _ _) rfl ⟨g', c', rfl, A2.out, T2.out⟩
  · have RA : Hid (Rt ah) := Lib.hid (by rcases ra with h | h; exact absurd h h0; exact h)
    have AP3 := Lib.hid (AP2.out (by omega))
    rw [RA.out.len] at S2 AP3 ⊢
    clear h0 ra AP2
    go_enter Try.func43, Try.ntmps43
    go_wp2_with fail
    refine (rapart_calls _).mono ?_
    rintro e2 w2 ⟨m, h, cap, rfl, hm, hh, mi, b2⟩
    have A2 := Lib.hid (A.out.only (Only.of_below b2 : Only (fun _ => False) _ _) (fun x => x) (fun x => x))
    have M2 := Lib.hid mi
    have T2 := Lib.hid ((Enc.RStep.refl e gb w).below b2)
    clear b2 mi
    go_wp2_with fail
    go_loopw [7] (fun i wr => ∃ (k : Nat) (g' c' : Nat), k ≤ 21 ∧ i = .int .i64 (k : Int) ∧ Hid (Enc.RIs wr e (reput R l ah k) g' c') ∧ Hid (Mdl.IsR wr m h cap AP true) ∧ Hid (Enc.RStep e gb g' w wr) ∧ g' ≠ m ∧ g' ≠ h) (fun i _ => 21 - (intOf i).toNat)
    case atStart => exact ⟨0, gb, cb, by omega, rfl, A2, M2, T2, by omega, by omega⟩
    case round =>
      clear A2 T2 M2
      obtain ⟨k, g', c', hk, rfl, A2, M2, T2, nv1, nv2⟩ := hrel
      by_cases hlt : k < 21
      · obtain ⟨ad, rfl, dk⟩ := (S1.out.same (w' := wr) (fun g hg _ => T2.out.only.block g (AP1.out g hg).2.2 (fun hx => by
          rcases hx with hx | hx
          · exact (AP1.out g hg).1 hx
          · exact (AP1.out g hg).2.1 hx))).cell (j := k) (by rw [RL.out.len]; exact hlt)
        obtain ⟨ad2, rfl, dk2⟩ := (S2.out.same (w' := wr) (fun g hg _ => T2.out.only.block g (AP3.out g hg).2.2 (fun hx => by
          rcases hx with hx | hx
          · exact (AP3.out g hg).1 hx
          · exact (AP3.out g hg).2.1 hx))).cell (j := k) (by rw [RA.out.len]; exact hlt)
        have bd := RL.out.bd k (by rw [RL.out.len]; exact hlt)
        have bd2 := RA.out.bd k (by rw [RA.out.len]; exact hlt)
        have HX : Hid (l.getD k 0 = l[k]'(by rw [RL.out.len]; exact hlt)) := Lib.hid (Dig.getD_get l k _)
        have HX2 : Hid (ah.getD k 0 = ah[k]'(by rw [RA.out.len]; exact hlt)) := Lib.hid (Dig.getD_get ah k _)
        have ER := Lib.hid (reput_good OK.out l ah k)
        have HS : Hid (reput R l ah (k + 1) = Enc.rsymS (reput R l ah k) AP (dif l ah k)) := Lib.hid (by show (if ah.length = 0 then _ else _) = _; rw [if_neg (by rw [RA.out.len]; decide)])
        have HD : Hid (dif l ah k = ((l.getD k 0 - ah.getD k 0 + 32) % 32).toNat) := Lib.hid rfl
        have HDL := Lib.hid (dif_lt l ah k)
        rw [HX.out, HX2.out] at HD
        have ik : (k : Int) < 21 := by omega
        generalize l[k]'(by rw [RL.out.len]; exact hlt) = x at *
        generalize ah[k]'(by rw [RA.out.len]; exact hlt) = y at *
        obtain ⟨q, hq⟩ : ∃ q, dif l ah k = q := ⟨_, rfl⟩
        rw [hq] at HS HD HDL
        have hd := HD.out
        have e0 : (x + 32 - y) % 32 = (q : Int) := by omega
        have e1 : Int.tmod (x + 32 - y) 32 = (q : Int) := by rw [Int.tmod_eq_emod_of_nonneg (by omega)]; exact e0
        have w1 : IntKind.i64.wrap (q : Int) = (q : Int) := wrapI64 (by omega) (by omega)
        have w2 : IntKind.i64.wrap (x + 32) = x + 32 := wrapI64 (by omega) (by omega)
        have w3 : IntKind.i64.wrap (x + 32 - y) = x + 32 - y := wrapI64 (by omega) (by omega)
        clear hq hd
        go_wp2_with fail
        refine region_quiet_tail 13 (by kernel_rfl) (by kernel_rfl) ?_
        simp only [List.take_succ_cons, List.take_zero, List.drop_succ_cons, List.drop_zero]
        repeat (quiet_step (fail))
        refine wpQuiet_nil ?_
        rintro _ ⟨nq, rfl⟩
        have BT := Lib.hid (Enc.RSymbol_yes (A2.out.drewN nq) ER.out.1 (by have := ER.out.2; omega) (M2.out.drewN nq) ap_good q HDL.out (by omega) (by omega) nv1 nv2)
        have lm := M2.out.blk.lt
        have lh := M2.out.row.lt
        go_wp2_with fail
        refine BT.out.mono ?_
        rintro e3 w3 ⟨g3, c3, rfl, a3, m3, o3, own3⟩
        have A3 := Lib.hid a3
        have M3 : Hid (Mdl.IsR w3 m h cap AP true) := Lib.hid (by rw [next_fixed] at m3; exact m3)
        have own3 : g3 = g' ∨ wr.heap.size ≤ g3 := own3
        have nv3 : g3 ≠ m ∧ g3 ≠ h := by omega
        have T3 : Hid (Enc.RStep e gb g3 w w3) := Lib.hid ⟨(T2.out.only.drewN nq).then o3 (fun i hi => by
          rcases hi with (hi | hi) | hi
          · exact .inl (.inl hi)
          · rcases T2.out.own with h1 | h1
            · exact .inl (.inr (hi.trans h1))
            · exact .inr (by omega)
          · exact .inr (by omega)), by
          have h2 := T2.out.only.size
          have h3 := T2.out.own
          omega⟩
        clear a3 m3 o3 BT A2 T2 M2
        go_wp2_with fail
        go_roundw
        case rel => exact ⟨k + 1, g3, c3, by omega, by push_cast; rfl, Lib.hid (by rw [HS.out]; exact A3.out), M3, T3, nv3.1, nv3.2⟩
        case measure => simp [intOf]; omega
      · obtain rfl : k = 21 := by omega
        go_wp2_with fail
        exact bodyPost_end (results_none rfl _ _ _) rfl ⟨g', c', rfl, A2.out, T2.out⟩
end Go.Proofs.Ytlbjoflmfboeeaa.Erg

/-
  Decoding is the inverse of encoding. Plain theorems; no condition but those told.
-/
set_option linter.unusedVariables false
namespace Go.Proofs.Ytlbjoflmfboeeaa.Deco
open Go.RowKit Go.Proofs.Ytlbjoflmfboeeaa Go.Proofs.Ytlbjoflmfboeeaa.Dig

/-- The number that the first n bytes hold, noughts behind. -/
def X (bs : List Int) : Nat → Int
  | 0 => 0
  | n + 1 => X bs n * 256 + bs.getD n 0
theorem X_congr (a b : List Int) (n : Nat) (h : ∀ i, i < n → a.getD i 0 = b.getD i 0) : X a n = X b n := by
  induction n with
  | zero => rfl
  | succ n ih => show X a n * 256 + a.getD n 0 = X b n * 256 + b.getD n 0; rw [ih (fun i hi => h i (by omega)), h n (by omega)]
theorem X_vl (D : List Int) (n : Nat) (h : n ≤ D.length) : X D n = vl (D.take n) := by
  induction n with
  | zero => simp [X, vl]
  | succ n ih =>
    show X D n * 256 + D.getD n 0 = _
    rw [ih (by omega), List.take_succ_eq_append_getElem (show n < D.length by omega), vl_snoc, getD_get D n (by omega)]
theorem X_all (D : List Int) : X D D.length = vl D := by rw [X_vl D _ (Nat.le_refl _), List.take_of_length_le (Nat.le_refl _)]
theorem getD_pre (a t : List Int) (i : Nat) (h : i < a.length) : (a ++ t).getD i 0 = a.getD i 0 := by
  rw [List.getD_eq_getElem?_getD, List.getD_eq_getElem?_getD, List.getElem?_append_left h]
theorem getD_zeros (a : List Int) (n i : Nat) : (a ++ List.replicate n 0).getD i 0 = a.getD i 0 := by
  rw [List.getD_eq_getElem?_getD, List.getD_eq_getElem?_getD]
  by_cases h : i < a.length
  · rw [List.getElem?_append_left h]
  · rw [List.getElem?_append_right (by omega), List.getElem?_eq_none (l := a) (by omega)]
    by_cases h2 : i - a.length < n
    · rw [List.getElem?_replicate_of_lt h2]; rfl
    · rw [List.getElem?_eq_none (by simp; omega)]
/-- The bytes lie in what the encoder told. -/
def Inside (bs : List Int) (R : Enc.RSt) : Prop := vl R.D ≤ X bs (R.K + 4) ∧ X bs (R.K + 4) < vl R.D + R.S
/-- The decoder stands where the encoder stood. -/
structure DRel (d : DSt) (R : Enc.RSt) : Prop where
  n : d.n = R.K + 4
  sz : d.sz = R.S
  co : d.co = X d.bs (R.K + 4) - vl R.D
theorem open_rel (bs : List Int) : DRel (openS bs) Enc.rfresh := by
  refine ⟨rfl, rfl, ?_⟩
  show _ = X bs 4 - 0
  show (((0 * 256 + bs.getD 0 0) * 256 + bs.getD 1 0) * 256 + bs.getD 2 0) * 256 + bs.getD 3 0 = (((0 * 256 + bs.getD 0 0) * 256 + bs.getD 1 0) * 256 + bs.getD 2 0) * 256 + bs.getD 3 0 - 0
  omega
theorem byte_at {bs : List Int} (h : ∀ x ∈ bs, 0 ≤ x ∧ x ≤ 255) (n : Nat) : 0 ≤ bs.getD n 0 ∧ bs.getD n 0 ≤ 255 := by
  rw [List.getD_eq_getElem?_getD]
  by_cases hn : n < bs.length
  · rw [List.getElem?_eq_getElem hn]; exact h _ (List.getElem_mem hn)
  · rw [List.getElem?_eq_none (by omega)]; decide
theorem norm_inside (bs : List Int) (hb : ∀ x ∈ bs, 0 ≤ x ∧ x ≤ 255) (n : Nat) : ∀ R : Enc.RSt, Inside bs (Enc.rnorm n R) → Inside bs R := by
  induction n with
  | zero => intro R h; exact h
  | succ n ih =>
    intro R h
    unfold Enc.rnorm at h
    by_cases hc : R.S < 16777216
    · rw [if_pos hc] at h
      have h2 := ih _ h
      unfold Inside at h2 ⊢
      have e1 : vl (Enc.rstep R).D = vl R.D * 256 := by show vl (R.D ++ [0]) = _; rw [vl_snoc]; omega
      have e2 : (Enc.rstep R).S = R.S * 256 := rfl
      have e3 : X bs ((Enc.rstep R).K + 4) = X bs (R.K + 4) * 256 + bs.getD (R.K + 4) 0 := by
        show X bs (R.K + 1 + 4) = _
        rw [show R.K + 1 + 4 = R.K + 4 + 1 from by omega, X]
      have hx := byte_at hb (R.K + 4)
      rw [e1, e2, e3] at h2
      omega
    · rw [if_neg hc] at h; exact h
theorem dnorm_rel (n : Nat) : ∀ (d : DSt) (R : Enc.RSt), DRel d R → DRel (dnorm n d) (Enc.rnorm n R) ∧ (dnorm n d).bs = d.bs := by
  induction n with
  | zero => intro d R h; exact ⟨h, rfl⟩
  | succ n ih =>
    intro d R h
    unfold dnorm Enc.rnorm
    rw [h.sz]
    by_cases hc : R.S < 16777216
    · rw [if_pos hc, if_pos hc]
      have h2 : DRel (nextS ⟨d.bs, d.n, d.co, R.S * 256⟩) (Enc.rstep R) := by
        refine ⟨?_, rfl, ?_⟩
        · show d.n + 1 = R.K + 1 + 4
          rw [h.n]
        · show d.co * 256 + d.bs.getD d.n 0 = X d.bs (R.K + 1 + 4) - vl (R.D ++ [0])
          rw [show R.K + 1 + 4 = R.K + 4 + 1 from by omega, vl_snoc, h.co, h.n]
          show _ = X d.bs (R.K + 4) * 256 + d.bs.getD (R.K + 4) 0 - _
          omega
      exact ih _ _ h2
    · rw [if_neg hc, if_neg hc]; exact ⟨h, rfl⟩
theorem put_vl {R : Enc.RSt} (g : Enc.RGood R) {lo ow al : Int} (may : Enc.May lo ow al) : vl (carF (R.K + 3) (addF 4 R.D R.K (R.S / al * lo)) R.K) = vl R.D + R.S / al * lo := by
  obtain ⟨p0, p1, p2, p3⟩ := may
  have s0 := g.s0
  have s1 := g.s1
  have b1 := Enc.mul_bd (R.S / al) lo al R.S rfl (by omega) p0 (by omega) (by omega)
  have hv : vl (addF 4 R.D R.K (R.S / al * lo)) = vl R.D + R.S / al * lo := by
    have := addF_vl 4 (by omega) R.D R.K (R.S / al * lo) g.len b1.1 (by show R.S / al * lo < 4294967296; omega)
    simpa using this
  rw [carF_vl (R.K + 3) (addF 4 R.D R.K (R.S / al * lo)) R.K (by rw [addF_len, g.len]; omega), hv]
/-- Behind a part the bytes lie in the part. -/
theorem put_inside {bs : List Int} (hb : ∀ x ∈ bs, 0 ≤ x ∧ x ≤ 255) {R : Enc.RSt} (g : Enc.RGood R) {lo ow al : Int} (may : Enc.May lo ow al) (h : Inside bs (Enc.rputS R lo ow al)) :
    R.S / al * lo ≤ X bs (R.K + 4) - vl R.D ∧ X bs (R.K + 4) - vl R.D < R.S / al * lo + R.S / al * ow := by
  have h2 := norm_inside bs hb 2 _ h
  unfold Inside at h2
  simp only [put_vl g may] at h2
  omega
theorem put_back {bs : List Int} (hb : ∀ x ∈ bs, 0 ≤ x ∧ x ≤ 255) {R : Enc.RSt} (g : Enc.RGood R) {lo ow al : Int} (may : Enc.May lo ow al) (h : Inside bs (Enc.rputS R lo ow al)) : Inside bs R := by
  have h2 := put_inside hb g may h
  obtain ⟨p0, p1, p2, p3⟩ := may
  have s0 := g.s0
  have b1 := Enc.mul_bd (R.S / al) lo al R.S rfl (by omega) p0 (by omega) (by omega)
  have b2 := Enc.mul_bd (R.S / al) (lo + ow) al R.S rfl (by omega) (by omega) (by omega) (by omega)
  rw [Int.mul_add] at b2
  unfold Inside
  omega
theorem take_rel {d : DSt} {R : Enc.RSt} (h : DRel d R) (g : Enc.RGood R) {lo ow al : Int} (may : Enc.May lo ow al) (hb : ∀ x ∈ d.bs, 0 ≤ x ∧ x ≤ 255) (hi : Inside d.bs (Enc.rputS R lo ow al)) :
    (lo ≤ atS d al ∧ atS d al < lo + ow) ∧ DRel (takeS d lo ow al) (Enc.rputS R lo ow al) ∧ (takeS d lo ow al).bs = d.bs := by
  have h2 := put_inside hb g may hi
  rw [← h.co] at h2
  have hpv := put_vl g may
  obtain ⟨p0, p1, p2, p3⟩ := may
  have s0 := g.s0
  have b3 := Enc.each_lo al R.S (by omega) p3 s0
  constructor
  · unfold atS
    rw [h.sz]
    obtain ⟨e, he⟩ : ∃ e, R.S / al = e := ⟨_, rfl⟩
    rw [he] at h2 b3 ⊢
    have h3 : lo ≤ d.co / e := (Int.le_ediv_iff_mul_le (by omega)).2 (by rw [Int.mul_comm]; exact h2.1)
    have h4 : d.co / e < lo + ow := (Int.ediv_lt_iff_lt_mul (by omega)).2 (by rw [Int.mul_comm, Int.mul_add]; exact h2.2)
    omega
  · unfold takeS Enc.rputS
    rw [h.sz]
    have e : min (d.co - R.S / al * lo) (R.S / al * ow - 1) = d.co - R.S / al * lo := by omega
    rw [e]
    refine dnorm_rel 2 _ _ ⟨h.n, rfl, ?_⟩
    show d.co - R.S / al * lo = X d.bs (R.K + 4) - vl (carF (R.K + 3) (addF 4 R.D R.K (R.S / al * lo)) R.K)
    rw [hpv, h.co]
    omega
theorem find_is (L : List Int) (hp : ∀ x ∈ L, 0 ≤ x) : ∀ (k : Nat) (x : Int), (hk : k < L.length) → Mdl.lsum (L.take k) ≤ x → x < Mdl.lsum (L.take k) + L[k] → Mdl.find L x = k := by
  induction L with
  | nil => intro k x hk; simp at hk
  | cons a l ih =>
    intro k x hk h1 h2
    rw [Mdl.find_cons]
    cases k with
    | zero =>
      rw [if_pos (.inl (by simp [Mdl.lsum] at h2; exact h2))]
    | succ k =>
      have e : Mdl.lsum ((a :: l).take (k + 1)) = a + Mdl.lsum (l.take k) := by simp [Mdl.lsum]
      rw [e] at h1 h2
      have hn := Mdl.lsum_nonneg (l.take k) (fun y hy => hp y (List.mem_cons_of_mem _ (List.mem_of_mem_take hy)))
      have hk2 : k < l.length := by simp at hk; exact hk
      rw [if_neg (by rintro (h | h); omega; subst h; simp at hk2)]
      have e2 : (a :: l)[k + 1] = l[k] := rfl
      rw [e2] at h2
      rw [ih (fun y hy => hp y (List.mem_cons_of_mem _ hy)) k (x - a) hk2 (by omega) (by omega)]
theorem sym_inv {d : DSt} {R : Enc.RSt} (h : DRel d R) (g : Enc.RGood R) {L : List Int} (good : Mdl.Good L) {k : Nat} (hk : k < L.length) (hb : ∀ x ∈ d.bs, 0 ≤ x ∧ x ≤ 255) (hi : Inside d.bs (Enc.rsymS R L k)) :
    symK d L = k ∧ DRel (symS d L) (Enc.rsymS R L k) ∧ (symS d L).bs = d.bs := by
  have h2 := take_rel h g (Enc.may_of good k hk) hb hi
  have e : symK d L = k := by
    unfold symK
    refine find_is L good.nonneg k _ hk h2.1.1 ?_
    have := h2.1.2
    rw [getD_get L k hk] at this
    exact this
  refine ⟨e, ?_⟩
  unfold symS
  rw [e]
  exact h2.2
theorem sym_back {bs : List Int} (hb : ∀ x ∈ bs, 0 ≤ x ∧ x ≤ 255) {R : Enc.RSt} (g : Enc.RGood R) {L : List Int} (good : Mdl.Good L) {k : Nat} (hk : k < L.length) (h : Inside bs (Enc.rsymS R L k)) : Inside bs R :=
  put_back hb g (Enc.may_of good k hk) h
theorem bits_back {bs : List Int} (hb : ∀ x ∈ bs, 0 ≤ x ∧ x ≤ 255) {R : Enc.RSt} (g : Enc.RGood R) (n : Int) (w : Nat) (hw : w ≤ 24) (h : Inside bs (Enc.rbitsS R n w)) : Inside bs R := by
  unfold Enc.rbitsS at h
  split at h
  · exact h
  · split at h
    · rename_i h0 h1
      exact put_back hb g (Enc.may_bits n h1) h
    · rename_i h0 h1
      exact put_back hb g (Enc.may_bits12 _) (put_back hb (Enc.rput_good g (Enc.may_bits12 _)).1 (Enc.may_bits n (show w - 12 ≤ 12 by omega)) h)
theorem bits_inv {d : DSt} {R : Enc.RSt} (h : DRel d R) (g : Enc.RGood R) {n : Int} {w : Nat} (n0 : 0 ≤ n) (n1 : n < 2 ^ w) (hw : w ≤ 24) (hb : ∀ x ∈ d.bs, 0 ≤ x ∧ x ≤ 255) (hi : Inside d.bs (Enc.rbitsS R n w)) :
    (bitsD d 0 w).1 = n ∧ DRel (bitsD d 0 w).2 (Enc.rbitsS R n w) ∧ (bitsD d 0 w).2.bs = d.bs := by
  unfold Enc.rbitsS at hi ⊢
  unfold bitsD
  by_cases h0 : w = 0
  · subst h0
    simp only [if_pos]
    refine ⟨by have : (2 : Int) ^ 0 = 1 := rfl; omega, ?_⟩
    simp only [if_pos] at hi
    exact ⟨h, trivial⟩
  · rw [if_neg h0] at hi
    rw [if_neg h0, if_neg h0]
    by_cases h1 : w ≤ 12
    · rw [if_pos h1] at hi
      rw [if_pos h1, if_pos h1]
      have h2 := take_rel h g (Enc.may_bits n h1) hb hi
      rw [Int.emod_eq_of_lt n0 n1] at h2 ⊢
      have e : atS d (2 ^ w) = n := by omega
      rw [e]
      exact ⟨by simp only; omega, h2.2⟩
    · rw [if_neg h1] at hi
      rw [if_neg h1, if_neg h1]
      have hw2 : w - 12 ≤ 12 := by omega
      have my1 := Enc.may_bits12 (n / 2 ^ (w - 12))
      have g1 := (Enc.rput_good g my1).1
      have my2 := Enc.may_bits n hw2
      have hi1 := put_back hb g1 my2 hi
      have h2 := take_rel h g my1 hb hi1
      have hp : (0 : Int) < 2 ^ (w - 12) := Int.pow_pos (by omega)
      have ep : (2 : Int) ^ w = 4096 * 2 ^ (w - 12) := by
        have : w = 12 + (w - 12) := by omega
        conv => lhs; rw [this, Int.pow_add]
        rfl
      have eq : n / 2 ^ (w - 12) % 4096 = n / 2 ^ (w - 12) := by
        refine Int.emod_eq_of_lt (Int.ediv_nonneg n0 (by omega)) ?_
        refine (Int.ediv_lt_iff_lt_mul hp).2 ?_
        rw [← ep]; exact n1
      rw [eq] at h2 g1 hi ⊢
      have e : atS d 4096 = n / 2 ^ (w - 12) := by omega
      have h3 := take_rel h2.2.1 g1 my2 (by rw [h2.2.2]; exact hb) (by rw [h2.2.2]; exact hi)
      simp only [e]
      have e2 : atS (takeS d (n / 2 ^ (w - 12)) 1 4096) (2 ^ (w - 12)) = n % 2 ^ (w - 12) := by omega
      rw [e2]
      refine ⟨?_, h3.2.1, by rw [h3.2.2, h2.2.2]⟩
      have := Int.ediv_mul_add_emod n (2 ^ (w - 12))
      rw [Int.zero_mul, Int.zero_add]
      exact this
end Go.Proofs.Ytlbjoflmfboeeaa.Deco

/-
  The walks of energy.Get and of the document's; no condition but those told.
-/
set_option linter.unusedVariables false
set_option linter.unusedSimpArgs false
namespace Go.Proofs.Ytlbjoflmfboeeaa.Erg
open Go.RowKit Go.Proofs.Ytlbjoflmfboeeaa Go.Proofs.YtlbjoflmfboeeaaW.PrintWords Go.Proofs.Ytlbjoflmfboeeaa.Deco

/-- The decoder's state behind k ceilings, and these. -/
def dget (s : DSt) (ah : List Int) : Nat → DSt × List Int
  | 0 => (s, [])
  | k + 1 => if ah.length = 0 then ((bitsD (dget s ah k).1 0 5).2, (dget s ah k).2 ++ [(bitsD (dget s ah k).1 0 5).1])
    else (symS (dget s ah k).1 AP, (dget s ah k).2 ++ [(ah.getD k 0 + symK (dget s ah k).1 AP) % 32])
theorem dget_len (s : DSt) (ah : List Int) (k : Nat) : (dget s ah k).2.length = k := by
  induction k with
  | zero => rfl
  | succ k ih => unfold dget; split <;> simp [ih]
theorem dget_ready {s : DSt} (ok : s.Ready) (ah : List Int) (k : Nat) : (dget s ah k).1.Ready ∧ (dget s ah k).1.bs = s.bs ∧ s.n ≤ (dget s ah k).1.n ∧ (dget s ah k).1.n ≤ s.n + 4 * k := by
  induction k with
  | zero => exact ⟨ok, rfl, Nat.le_refl _, Nat.le_refl _⟩
  | succ k ih =>
    unfold dget
    split
    · have := bits_ready ih.1 0 5 (by decide)
      exact ⟨this.1, this.2.1.trans ih.2.1, Nat.le_trans ih.2.2.1 this.2.2.1, Nat.le_trans this.2.2.2 (by have := ih.2.2.2; omega)⟩
    · have := sym_ready ih.1 ap_good
      exact ⟨this.1, this.2.1.trans ih.2.1, Nat.le_trans ih.2.2.1 this.2.2.1, Nat.le_trans this.2.2.2 (by have := ih.2.2.2; omega)⟩
theorem pad_set (xs : List Int) (m : Nat) (v : Int) : (xs ++ List.replicate (m + 1) 0).set xs.length v = (xs ++ [v]) ++ List.replicate m 0 := by
  rw [List.set_append_right _ _ (Nat.le_refl _), Nat.sub_self, List.replicate_succ, List.set_cons_zero, List.append_assoc]; rfl
def GPost (P : DSt × List Int) (d : Nat) (v : Value) (w : World) (en : Ending) (w' : World) : Prop :=
  ((rightB P.2 = true ∧ ∃ g cap, en = .returned (.tuple #[.slice (some ⟨g, 0, none⟩) 21 cap, .int .i64 0]) ∧ w.heap.size ≤ g ∧ RowI w' 3 .i64 g cap P.2) ∨ (rightB P.2 = false ∧ en = .returned (.tuple #[.slice none 0 0, .int .i64 3]))) ∧
    Is w' d 120 .u32 P.1 v ∧ At d w w'
attribute [local irreducible] bitsD symS symK AP takeS atS
theorem Get_nil (ua : Value) (w : World) : Calls Try.prog 44 #[.pointer none, ua] w fun en w' => en = .returned (.tuple #[.slice none 0 0, .int .i64 1]) ∧ w' = w := by
  go_enter Try.func44, Try.ntmps44
  go_wp2
  go_ret2
  exact ⟨rfl, rfl⟩
set_option maxRecDepth 100000 in
theorem Get_bad {w : World} (d : Nat) {ua : Value} {ah : List Int} (srca : Src w .i64 ua ah) (hal : ah.length ≤ 1000000000) (h : 0 < ah.length) (h3 : rightB ah = false) :
    Calls Try.prog 44 #[.pointer (some ⟨d, 0, none⟩), ua] w fun en w' => en = .returned (.tuple #[.slice none 0 0, .int .i64 1]) ∧ w' = w := by
  have C2 := Lib.hid (Right_calls srca hal)
  rw [h3] at C2
  clear h3
  obtain ⟨A, c, rfl, _⟩ := srca
  have ih : (0 : Int) < (ah.length : Int) := by omega
  go_enter Try.func44, Try.ntmps44
  go_wp2_with fail
  refine C2.out.mono ?_
  rintro e1 w1 ⟨rfl, he⟩
  subst w1
  go_wp2_with fail
  go_ret2
  exact ⟨rfl, rfl⟩
set_option maxHeartbeats 2000000 in
set_option maxRecDepth 100000 in
theorem Get_yes {w : World} {d : Nat} {s : DSt} {v : Value} (a : Is w d 120 .u32 s v) (ok : s.Ready) (hn : s.n ≤ 700000000000) {ua : Value} {ah : List Int} (srca : Src w .i64 ua ah) (ra : ah.length = 0 ∨ Rt ah)
    (ap2 : 0 < ah.length → ∀ g, ua.ownBlock = some g → g ≠ d ∧ g < w.heap.size) :
    Calls Try.prog 44 #[.pointer (some ⟨d, 0, none⟩), ua] w (GPost (dget s ah 21) d v w) := by
  have hm : ∀ w : World, (Instr.makeSlice 54 (.int .i64 21) (.int .i64 21)).run Try.prog w = .ok (.slice (some ⟨w.heap.size, 0, none⟩) 21 21) (w.alloc (.cells (madeCells #[.int .i64 0] 21) 3)) := fun w => run_make_row' 54 3 (.int .i64 0) 8 Try.underlying54 (by kernel_rfl) rfl .i64 .i64 21 (by omega) (by omega) w
  have A := Lib.hid a
  have OK := Lib.hid ok
  have S2 := Lib.hid srca
  have AP2 := Lib.hid ap2
  have hle := a.blk.lt
  have vlt : Hid (∀ g, v.ownBlock = some g → g < w.heap.size) := Lib.hid (fun g hg => a.sl.lt hg)
  obtain ⟨aA, ac, rfl, _⟩ := srca
  clear a ok ap2
  by_cases h0 : ah.length = 0
  · have HN : Hid (ah.length = 0) := Lib.hid h0
    rw [h0] at S2 AP2 ⊢
    clear h0 ra
    go_enter Try.func44, Try.ntmps44
    go_wp2_with fail
    refine (apart_calls _).mono ?_
    rintro e2 w2 ⟨m, h, cap, rfl, hm1, hh, _, b2⟩
    have A2 := Lib.hid ((A.out.below b2).below ((Below.refl _ _).alloc (Nat.le_refl _) (.cells (madeCells #[.int .i64 0] 21) 3) : Below _ _ _))
    have s2 := b2.size
    have O2 : Hid (At d w (w2.alloc (.cells (madeCells #[.int .i64 0] 21) 3))) := Lib.hid ((Only.of_below b2 : At d w w2).trans (Only.of_below ((Below.refl _ _).alloc (Nat.le_refl _) _)))
    have R2 := Lib.hid (RowI.new w2 3 .i64 21 0 (by decide))
    clear b2
    go_wp2_with fail
    generalize w2.heap.size = G at *
    go_loopw [29] (fun i wr => ∃ (k : Nat), k ≤ 21 ∧ i = .int .i64 (k : Int) ∧ Hid (Is wr d 120 .u32 (dget s ah k).1 v) ∧ Hid (RowI wr 3 .i64 G 21 ((dget s ah k).2 ++ List.replicate (21 - k) 0)) ∧ Hid (At d w wr)) (fun i _ => 21 - (intOf i).toNat)
    case atStart => exact ⟨0, by omega, rfl, A2, R2, O2⟩
    case round =>
      clear A2 R2 O2
      obtain ⟨k, hk, rfl, A2, R2, O2⟩ := hrel
      have hl := dget_len s ah k
      have HL := Lib.hid hl
      by_cases hlt : k < 21
      · have ER := Lib.hid (dget_ready OK.out ah k)
        have HS : Hid (dget s ah (k + 1) = ((bitsD (dget s ah k).1 0 5).2, (dget s ah k).2 ++ [(bitsD (dget s ah k).1 0 5).1])) := Lib.hid (by show (if ah.length = 0 then _ else _) = _; rw [if_pos HN.out])
        have BB := bits_bd ER.out.1 5 (by decide)
        have dk := R2.out.cell (i := k) (by rw [List.length_append, hl, List.length_replicate]; omega)
        have fk := R2.out.free k
        have PS : Hid (((dget s ah k).2 ++ List.replicate (21 - k) 0).set k (bitsD (dget s ah k).1 0 5).1 = (dget s ah (k + 1)).2 ++ List.replicate (21 - (k + 1)) 0) := Lib.hid (by
          have := pad_set (dget s ah k).2 (21 - (k + 1)) (bitsD (dget s ah k).1 0 5).1
          rw [hl, show 21 - (k + 1) + 1 = 21 - k from by omega] at this
          rw [HS.out]; exact this)
        have GD : d ≠ G := by omega
        have GV : ∀ g, v.ownBlock = some g → g ≠ G := fun g hg => by have := vlt.out g hg; omega
        have BT := Lib.hid (Bits_yes A2.out ER.out.1 (by have := ER.out.2.2.2; omega) 5 (by decide))
        have HN1 : Hid ((dget s ah (k + 1)).1 = (bitsD (dget s ah k).1 0 5).2) := Lib.hid (by rw [HS.out])
        generalize ((dget s ah k).2 ++ List.replicate (21 - k) 0)[k]'(by rw [List.length_append, hl, List.length_replicate]; omega) = y0 at *
        obtain ⟨X, hX⟩ : ∃ X, (bitsD (dget s ah k).1 0 5).1 = X := ⟨_, rfl⟩
        rw [hX] at BB PS BT
        clear hX HS
        have w1 : IntKind.i64.wrap X = X := wrapI64 (by omega) (by omega)
        clear hl
        go_wp2_with fail
        refine BT.out.mono ?_
        rintro e3 w3 ⟨rfl, a3, o3⟩
        have A3 := Lib.hid a3
        have R3 := Lib.hid (R2.out.of_same (o3.block G R2.out.lt (by omega)))
        have O3 := Lib.hid (O2.out.trans o3)
        have dk : w3.cell? ⟨G, k, none⟩ = some (.int .i64 y0) := by rw [← dk]; exact World.cell?_of_block (o3.block G R2.out.lt (by omega))
        have fk := R3.out.free k
        clear a3 o3 BT A2 R2 O2
        go_wp2_with fail
        go_roundw
        case rel => exact ⟨k + 1, by omega, by push_cast; rfl, Lib.hid (by rw [HN1.out]; exact A3.out.only (At.cell (At.refl G w3) k _) (fun hx => GD hx) (fun g hg hx => GV g hg hx)), Lib.hid (by rw [← PS.out]; exact R3.out.set k _), Lib.hid (Only.set O3.out (p := ⟨G, k, none⟩) (.inr (by omega)) _)⟩
        case measure => simp [intOf]; omega
      · obtain rfl : k = 21 := by omega
        rw [Nat.sub_self, show List.replicate 0 (0 : Int) = [] from rfl, List.append_nil] at R2
        have RC := Lib.hid (Right_calls (Src.of_sl (Sl.row R2.out)) (by rw [hl]; decide))
        rw [hl] at RC
        clear hl
        go_wp2_with fail
        refine RC.out.mono ?_
        rintro e3 w3 ⟨rfl, he⟩
        subst w3
        have HG : w.heap.size ≤ G := by omega
        cases hr : rightB (dget s ah 21).2 with
        | true =>
          go_wp2_with fail
          go_ret2
          exact ⟨.inl ⟨hr, G, 21, rfl, HG, R2.out⟩, A2.out, O2.out⟩
        | false =>
          go_wp2_with fail
          go_ret2
          exact ⟨.inr ⟨hr, rfl⟩, A2.out, O2.out⟩
  · have RA : Hid (Rt ah) := Lib.hid (by rcases ra with h | h; exact absurd h h0; exact h)
    have C2 := Lib.hid (Right_calls S2.out (by rw [RA.out.len]; decide))
    rw [rt_right RA.out] at C2
    have AP3 := Lib.hid (AP2.out (by omega))
    rw [RA.out.len] at S2 C2 AP3 ⊢
    clear h0 ra AP2
    go_enter Try.func44, Try.ntmps44
    go_wp2_with fail
    refine C2.out.mono ?_
    rintro e1 w1 ⟨rfl, he⟩
    subst w1
    go_wp2_with fail
    refine (apart_calls _).mono ?_
    rintro e2 w2 ⟨m, h, cap, rfl, hm1, hh, mi, b2⟩
    have bA : Below w2.heap.size w2 (w2.alloc (.cells (madeCells #[.int .i64 0] 21) 3)) := (Below.refl _ _).alloc (Nat.le_refl _) _
    have A2 := Lib.hid ((A.out.below b2).below bA)
    have M2 : Hid (Mdl.Is (w2.alloc (.cells (madeCells #[.int .i64 0] 21) 3)) m h cap AP true) := Lib.hid (mi.only (Only.of_below bA : Only (fun _ => False) _ _) (fun x => x) (fun x => x))
    have s2 := b2.size
    have lm := mi.blk.lt
    have lh := mi.row.lt
    have O2 : Hid (Only (fun i => i = d ∨ (i = m ∨ i = h)) w (w2.alloc (.cells (madeCells #[.int .i64 0] 21) 3))) := Lib.hid ((Only.of_below b2 : Only (fun i => i = d ∨ (i = m ∨ i = h)) w w2).trans (Only.of_below bA))
    have R2 := Lib.hid (RowI.new w2 3 .i64 21 0 (by decide))
    clear b2 mi bA
    go_wp2_with fail
    generalize w2.heap.size = G at *
    have nv : ∀ g, v.ownBlock = some g → g ≠ m ∧ g ≠ h ∧ g ≠ G := fun g hg => by have := vlt.out g hg; omega
    have NV := Lib.hid nv
    clear nv
    go_loopw [29] (fun i wr => ∃ (k : Nat), k ≤ 21 ∧ i = .int .i64 (k : Int) ∧ Hid (Is wr d 120 .u32 (dget s ah k).1 v) ∧ Hid (Mdl.Is wr m h cap AP true) ∧ Hid (RowI wr 3 .i64 G 21 ((dget s ah k).2 ++ List.replicate (21 - k) 0)) ∧ Hid (Only (fun i => i = d ∨ (i = m ∨ i = h)) w wr)) (fun i _ => 21 - (intOf i).toNat)
    case atStart => exact ⟨0, by omega, rfl, A2, M2, R2, O2⟩
    case round =>
      clear A2 R2 O2 M2
      obtain ⟨k, hk, rfl, A2, M2, R2, O2⟩ := hrel
      have hl := dget_len s ah k
      by_cases hlt : k < 21
      · obtain ⟨ad2, rfl, dk2⟩ := (S2.out.same (w' := wr) (fun g hg _ => O2.out.block g (AP3.out g hg).2 (fun hx => by
          rcases hx with hx | hx
          · exact (AP3.out g hg).1 hx
          · have := (AP3.out g hg).2; omega))).cell (j := k) (by rw [RA.out.len]; exact hlt)
        have bd2 := RA.out.bd k (by rw [RA.out.len]; exact hlt)
        have HX2 : Hid (ah.getD k 0 = ah[k]'(by rw [RA.out.len]; exact hlt)) := Lib.hid (Dig.getD_get ah k _)
        have ER := Lib.hid (dget_ready OK.out ah k)
        have HS : Hid (dget s ah (k + 1) = (symS (dget s ah k).1 AP, (dget s ah k).2 ++ [(ah.getD k 0 + symK (dget s ah k).1 AP) % 32])) := Lib.hid (by show (if ah.length = 0 then _ else _) = _; rw [if_neg (by rw [RA.out.len]; decide)])
        rw [HX2.out] at HS
        have SK := sym_lt (s := (dget s ah k).1) ap_good
        have hap : AP.length = 32 := by unfold AP; rfl
        rw [hap] at SK
        have dk := R2.out.cell (i := k) (by rw [List.length_append, hl, List.length_replicate]; omega)
        generalize ah[k]'(by rw [RA.out.len]; exact hlt) = x at *
        have PS : Hid (((dget s ah k).2 ++ List.replicate (21 - k) 0).set k ((x + symK (dget s ah k).1 AP) % 32) = (dget s ah (k + 1)).2 ++ List.replicate (21 - (k + 1)) 0) := Lib.hid (by
          have := pad_set (dget s ah k).2 (21 - (k + 1)) ((x + symK (dget s ah k).1 AP) % 32)
          rw [hl, show 21 - (k + 1) + 1 = 21 - k from by omega] at this
          rw [HS.out]; exact this)
        have BT := Lib.hid (Symbol_yes A2.out ER.out.1 (by have := ER.out.2.2.2; omega) M2.out ap_good (by omega) (by omega) (fun hx => (NV.out _ hx).1 rfl) (fun hx => (NV.out _ hx).2.1 rfl))
        have HN1 : Hid ((dget s ah (k + 1)).1 = symS (dget s ah k).1 AP) := Lib.hid (by rw [HS.out])
        generalize ((dget s ah k).2 ++ List.replicate (21 - k) 0)[k]'(by rw [List.length_append, hl, List.length_replicate]; omega) = y0 at *
        obtain ⟨q, hq⟩ : ∃ q, symK (dget s ah k).1 AP = q := ⟨_, rfl⟩
        rw [hq] at SK PS BT
        clear hq HS hl hap
        obtain ⟨z, hz⟩ : ∃ z, (x + (q : Int)) % 32 = z := ⟨_, rfl⟩
        have e1 : Int.tmod (x + (q : Int)) 32 = z := by rw [Int.tmod_eq_emod_of_nonneg (by omega)]; exact hz
        have w1 : IntKind.i64.wrap z = z := wrapI64 (by omega) (by omega)
        rw [hz] at PS
        go_wp2_with fail
        refine BT.out.mono ?_
        rintro e3 w3 ⟨rfl, a3, m3, o3⟩
        have hG : G ≠ d ∧ G ≠ m ∧ G ≠ h := by omega
        have oG := o3.block G R2.out.lt (by omega)
        have A3 := Lib.hid a3
        have M3 : Hid (Mdl.Is w3 m h cap AP true) := Lib.hid (by rw [next_fixed] at m3; exact m3)
        have R3 := Lib.hid (R2.out.of_same oG)
        have O3 := Lib.hid (O2.out.trans o3)
        have dk : w3.cell? ⟨G, k, none⟩ = some (.int .i64 y0) := by rw [← dk]; exact World.cell?_of_block oG
        have fk := R3.out.free k
        obtain ⟨ad3, hh3, dk3⟩ := (S2.out.same (w' := w3) (fun g hg _ => O3.out.block g (AP3.out g hg).2 (fun hx => by
          rcases hx with hx | hx
          · exact (AP3.out g hg).1 hx
          · have := (AP3.out g hg).2; omega))).cell (j := k) (by rw [RA.out.len]; exact hlt)
        cases hh3
        have hx3 : ah[k]'(by rw [RA.out.len]; exact hlt) = x := HX2.out ▸ (Dig.getD_get ah k (by rw [RA.out.len]; exact hlt)).symm
        rw [hx3] at dk3
        clear a3 m3 o3 BT A2 R2 O2 oG M2 hx3
        go_wp2_with fail
        go_roundw
        case rel => exact ⟨k + 1, by omega, by push_cast; rfl, Lib.hid (by rw [HN1.out]; exact A3.out.only (At.cell (At.refl G w3) k _) (fun hx => hG.1 hx.symm) (fun g hg hx => (NV.out g hg).2.2 hx)), Lib.hid (M3.out.only (At.cell (At.refl G w3) k _) (fun hx => hG.2.1 hx.symm) (fun hx => hG.2.2 hx.symm)), Lib.hid (by rw [← PS.out]; exact R3.out.set k _), Lib.hid (Only.set O3.out (p := ⟨G, k, none⟩) (.inr (by omega)) _)⟩
        case measure => simp [intOf]; omega
      · obtain rfl : k = 21 := by omega
        rw [Nat.sub_self, show List.replicate 0 (0 : Int) = [] from rfl, List.append_nil] at R2
        have RC := Lib.hid (Right_calls (Src.of_sl (Sl.row R2.out)) (by rw [hl]; decide))
        rw [hl] at RC
        clear hl
        go_wp2_with fail
        refine RC.out.mono ?_
        rintro e3 w3 ⟨rfl, he⟩
        subst w3
        have HG : w.heap.size ≤ G := by omega
        have OO : At d w wr := ⟨O2.out.os, O2.out.tape, O2.out.output, O2.out.size, fun i hi hn => O2.out.block i hi (fun hx => by
          rcases hx with hx | hx
          · exact hn hx
          · omega)⟩
        have OO := Lib.hid OO
        cases hr : rightB (dget s ah 21).2 with
        | true =>
          go_wp2_with fail
          go_ret2
          exact ⟨.inl ⟨hr, G, 21, rfl, HG, R2.out⟩, A2.out, OO.out⟩
        | false =>
          go_wp2_with fail
          go_ret2
          exact ⟨.inr ⟨hr, rfl⟩, A2.out, OO.out⟩
end Go.Proofs.Ytlbjoflmfboeeaa.Erg

/-
  The walk of the document's Get; no condition but those told.
-/
set_option linter.unusedVariables false
set_option linter.unusedSimpArgs false
namespace Go.Proofs.Ytlbjoflmfboeeaa.Erg
open Go.RowKit Go.Proofs.Ytlbjoflmfboeeaa Go.Proofs.YtlbjoflmfboeeaaW.PrintWords Go.Proofs.Ytlbjoflmfboeeaa.Deco

def RGPost (P : DSt × List Int) (d : Nat) (v : Value) (w : World) (en : Ending) (w' : World) : Prop :=
  ∃ u, en = .returned (.tuple #[u, .bool (rightB P.2)]) ∧ Sl w' 3 .i64 u P.2 ∧ (∀ g, u.ownBlock = some g → w.heap.size ≤ g) ∧ Is w' d 69 .i64 P.1 v ∧ At d w w'
attribute [local irreducible] bitsD symS symK AP takeS atS
set_option maxHeartbeats 2000000 in
set_option maxRecDepth 100000 in
theorem RGet_yes {w : World} {d : Nat} {s : DSt} {v : Value} (a : Is w d 69 .i64 s v) (ok : s.Ready) (hn : s.n ≤ 700000000000) {ua : Value} {ah : List Int} (srca : Src w .i64 ua ah) (ra : ah.length = 0 ∨ Rt ah)
    (ap2 : 0 < ah.length → ∀ g, ua.ownBlock = some g → g ≠ d ∧ g < w.heap.size) :
    Calls Try.prog 46 #[.pointer (some ⟨d, 0, none⟩), ua] w (RGPost (dget s ah 21) d v w) := by
  have A := Lib.hid a
  have OK := Lib.hid ok
  have S2 := Lib.hid srca
  have AP2 := Lib.hid ap2
  have hle := a.blk.lt
  have vlt : Hid (∀ g, v.ownBlock = some g → g < w.heap.size) := Lib.hid (fun g hg => a.sl.lt hg)
  obtain ⟨aA, ac, rfl, _⟩ := srca
  clear a ok ap2
  by_cases h0 : ah.length = 0
  · have HN : Hid (ah.length = 0) := Lib.hid h0
    rw [h0] at S2 AP2 ⊢
    clear h0 ra
    go_enter Try.func46, Try.ntmps46
    go_wp2_with fail
    refine (rapart_calls _).mono ?_
    rintro e2 w2 ⟨m, h, cap, rfl, hm1, hh, _, b2⟩
    have A2 := Lib.hid (A.out.below b2)
    have O2 : Hid (At d w w2) := Lib.hid (Only.of_below b2)
    clear b2
    go_wp2_with fail
    go_loopw [7, 8] (fun u i wr => ∃ (k : Nat), k ≤ 21 ∧ i = .int .i64 (k : Int) ∧ Hid (Is wr d 69 .i64 (dget s ah k).1 v) ∧ Hid (Sl wr 3 .i64 u (dget s ah k).2) ∧ Hid (∀ g, u.ownBlock = some g → w.heap.size ≤ g) ∧ Hid (At d w wr)) (fun _ i _ => 21 - (intOf i).toNat)
    case atStart => exact ⟨0, by omega, rfl, A2, Sl.nil _ _ _, fun g hg => (by cases hg), O2⟩
    case round =>
      clear A2 O2
      obtain ⟨k, hk, rfl, A2, R2, N2, O2⟩ := hrel
      have hl := dget_len s ah k
      by_cases hlt : k < 21
      · have ER := Lib.hid (dget_ready OK.out ah k)
        have HS : Hid (dget s ah (k + 1) = ((bitsD (dget s ah k).1 0 5).2, (dget s ah k).2 ++ [(bitsD (dget s ah k).1 0 5).1])) := Lib.hid (by show (if ah.length = 0 then _ else _) = _; rw [if_pos HN.out])
        have BT := Lib.hid (RBits_yes A2.out ER.out.1 (by have := ER.out.2.2.2; omega) 5 (by decide))
        have HN1 : Hid ((dget s ah (k + 1)).1 = (bitsD (dget s ah k).1 0 5).2) := Lib.hid (by rw [HS.out])
        have HN2 : Hid ((dget s ah (k + 1)).2 = (dget s ah k).2 ++ [(bitsD (dget s ah k).1 0 5).1]) := Lib.hid (by rw [HS.out])
        obtain ⟨Y, hX⟩ : ∃ X, (bitsD (dget s ah k).1 0 5).1 = X := ⟨_, rfl⟩
        rw [hX] at BT HN2
        have HL := Lib.hid hl
        clear hX HS hl
        go_wp2_with fail
        refine BT.out.mono ?_
        rintro e3 w3 ⟨rfl, a3, o3⟩
        have A3 := Lib.hid a3
        have R3 := Lib.hid (R2.out.only o3 (fun g hg hx => by have := N2.out g hg; omega))
        have O3 := Lib.hid (O2.out.trans o3)
        have l3 : w.heap.size ≤ w3.heap.size := O3.out.size
        clear a3 o3 BT A2 R2 O2
        go_wp2_with (at_builtin
                     have hsl := R3.out.alloc (.cells #[.int .i64 Y] 3)
                     refine wpList_push (.tmp 17) (.tmp 20) 54 3 .i64 0 8 rfl rfl Try.underlying54 Mdl.info_int _ (dget s ah k).2 k Y ⟨w3.heap.size, 0, none⟩ (w3.heap.size + 1) rfl rfl hsl HL.out ((Blk.new w3 _ _).cell rfl) (by simp) (by omega) (by omega) ?_
                     intro g4 cap4 w4 hp
                     have R4 := Lib.hid (Sl.row hp.row)
                     have N4 : Hid (w.heap.size ≤ g4) := Lib.hid (by
                       rcases hp.at_ with h1 | h1
                       · exact N2.out g4 h1
                       · omega)
                     have A4 := Lib.hid ((A3.out.below ((Below.refl _ _).alloc (Nat.le_refl _) _)).only hp.only (fun hx => by have := N2.out _ hx; omega) (fun g hg hx => by have := N2.out _ hx; have := vlt.out g hg; omega))
                     have O4 : Hid (At d w w4) := Lib.hid ((O3.out.alloc _).then hp.only (fun i hi => .inr (N2.out i hi)))
                     clear hp hsl A3 R3 O3)
        go_roundw
        case rel =>
          refine ⟨k + 1, by omega, by push_cast; rfl, Lib.hid (by rw [HN1.out]; exact A4.out), Lib.hid ?_, fun g hg => ?_, O4⟩
          · have := R4.out
            rw [List.length_append, HL.out, List.length_singleton] at this
            rw [HN2.out]; exact this
          · have hg : some g4 = some g := hg
            injection hg with hg
            have := N4.out
            omega
        case measure => simp [intOf]; omega
      · obtain rfl : k = 21 := by omega
        have RC := Lib.hid (RRight_calls (Src.of_sl R2.out) (by rw [hl]; decide))
        clear hl
        go_wp2_with fail
        refine RC.out.mono ?_
        rintro e3 w3 ⟨rfl, he⟩
        subst w3
        go_wp2_with fail
        go_ret2
        exact ⟨_, rfl, R2.out, N2.out, A2.out, O2.out⟩
  · have RA : Hid (Rt ah) := Lib.hid (by rcases ra with h | h; exact absurd h h0; exact h)
    have AP3 := Lib.hid (AP2.out (by omega))
    rw [RA.out.len] at S2 AP3 ⊢
    clear h0 ra AP2
    go_enter Try.func46, Try.ntmps46
    go_wp2_with fail
    refine (rapart_calls _).mono ?_
    rintro e2 w2 ⟨m, h, cap, rfl, hm1, hh, mi, b2⟩
    have A2 := Lib.hid (A.out.below b2)
    have M2 := Lib.hid mi
    have lm := mi.blk.lt
    have lh := mi.row.lt
    have s2 := b2.size
    have O2 : Hid (Only (fun i => i = d ∨ (i = m ∨ i = h)) w w2) := Lib.hid (Only.of_below b2)
    clear b2 mi
    have nv : ∀ g, v.ownBlock = some g → g ≠ m ∧ g ≠ h := fun g hg => by have := vlt.out g hg; omega
    have NV := Lib.hid nv
    clear nv
    generalize w2.heap.size = G at *
    go_wp2_with fail
    go_loopw [7, 8] (fun u i wr => ∃ (k : Nat), k ≤ 21 ∧ i = .int .i64 (k : Int) ∧ Hid (Is wr d 69 .i64 (dget s ah k).1 v) ∧ Hid (Mdl.IsR wr m h cap AP true) ∧ Hid (Sl wr 3 .i64 u (dget s ah k).2) ∧ Hid (∀ g, u.ownBlock = some g → w.heap.size ≤ g ∧ g ≠ m ∧ g ≠ h) ∧ Hid (Only (fun i => i = d ∨ (i = m ∨ i = h)) w wr)) (fun _ i _ => 21 - (intOf i).toNat)
    case atStart => exact ⟨0, by omega, rfl, A2, M2, Sl.nil _ _ _, fun g hg => (by cases hg), O2⟩
    case round =>
      clear A2 O2 M2
      obtain ⟨k, hk, rfl, A2, M2, R2, N2, O2⟩ := hrel
      have hl := dget_len s ah k
      by_cases hlt : k < 21
      · obtain ⟨ad2, rfl, dk2⟩ := (S2.out.same (w' := wr) (fun g hg _ => O2.out.block g (AP3.out g hg).2 (fun hx => by
          rcases hx with hx | hx
          · exact (AP3.out g hg).1 hx
          · have := (AP3.out g hg).2; omega))).cell (j := k) (by rw [RA.out.len]; exact hlt)
        have bd2 := RA.out.bd k (by rw [RA.out.len]; exact hlt)
        have HX2 : Hid (ah.getD k 0 = ah[k]'(by rw [RA.out.len]; exact hlt)) := Lib.hid (Dig.getD_get ah k _)
        have ER := Lib.hid (dget_ready OK.out ah k)
        have HS : Hid (dget s ah (k + 1) = (symS (dget s ah k).1 AP, (dget s ah k).2 ++ [(ah.getD k 0 + symK (dget s ah k).1 AP) % 32])) := Lib.hid (by show (if ah.length = 0 then _ else _) = _; rw [if_neg (by rw [RA.out.len]; decide)])
        rw [HX2.out] at HS
        have SK := sym_lt (s := (dget s ah k).1) ap_good
        have hap : AP.length = 32 := by unfold AP; rfl
        rw [hap] at SK
        generalize ah[k]'(by rw [RA.out.len]; exact hlt) = x at *
        have BT := Lib.hid (RSymbol_yes (A2.out.drewN 1) ER.out.1 (by have := ER.out.2.2.2; omega) (M2.out.drewN 1) ap_good (by omega) (by omega) (fun hx => (NV.out _ hx).1 rfl) (fun hx => (NV.out _ hx).2 rfl))
        have HN1 : Hid ((dget s ah (k + 1)).1 = symS (dget s ah k).1 AP) := Lib.hid (by rw [HS.out])
        have HN2 : Hid ((dget s ah (k + 1)).2 = (dget s ah k).2 ++ [(x + symK (dget s ah k).1 AP) % 32]) := Lib.hid (by rw [HS.out])
        obtain ⟨q, hq⟩ : ∃ q, symK (dget s ah k).1 AP = q := ⟨_, rfl⟩
        rw [hq] at SK BT HN2
        have HL := Lib.hid hl
        clear hq HS hl hap
        obtain ⟨z, hz⟩ : ∃ z, (x + (q : Int)) % 32 = z := ⟨_, rfl⟩
        have e1 : Int.tmod (x + (q : Int)) 32 = z := by rw [Int.tmod_eq_emod_of_nonneg (by omega)]; exact hz
        have w1 : IntKind.i64.wrap z = z := wrapI64 (by omega) (by omega)
        have w2 : IntKind.i64.wrap (x + (q : Int)) = x + (q : Int) := wrapI64 (by omega) (by omega)
        rw [hz] at HN2
        have HDK : Hid (∀ w3, Only (fun i => i = d ∨ (i = m ∨ i = h)) wr w3 → w3.cell? (ad2.add k) = some (.int .i64 x)) := Lib.hid (fun w3 o3 => by
          obtain ⟨ad3, hh3, dk3⟩ := (S2.out.same (w' := w3) (fun g hg _ => (O2.out.trans o3).block g (AP3.out g hg).2 (fun hx => by
            rcases hx with hx | hx
            · exact (AP3.out g hg).1 hx
            · have := (AP3.out g hg).2; omega))).cell (j := k) (by rw [RA.out.len]; exact hlt)
          cases hh3
          have hx3 : ah[k]'(by rw [RA.out.len]; exact hlt) = x := HX2.out ▸ (Dig.getD_get ah k (by rw [RA.out.len]; exact hlt)).symm
          rw [hx3] at dk3
          exact dk3)
        have dkd : wr.drew.cell? (ad2.add k) = some (.int .i64 x) := dk2
        have BT : Hid (Calls Try.prog 36 #[.pointer (some ⟨d, 0, none⟩), .pointer (some ⟨m, 0, none⟩)] wr.drew fun e w' => e = .returned (.int .i64 q) ∧
          Is w' d 69 .i64 (symS (dget s ah k).1 AP) v ∧ Mdl.IsR w' m h cap (Mdl.next true AP q) true ∧ Only (fun i => i = d ∨ (i = m ∨ i = h)) wr.drew w') := Lib.hid BT.out
        go_wp2_with fail
        go_region_law (first
          | (refine step_push _ _ _ 3 .i64 0 8 (by rfl) (by rfl) Try.underlying54 Mdl.info_int u7 (dget s ah k).2 k z ⟨w3.heap.size, 0, none⟩ (w3.heap.size + 1) (by rfl) (by rfl) ?_ HL.out ?_ ?_ ?_ ?_ ?_
             · exact R3.out.alloc _
             · exact (Blk.new w3 _ _).cell (i := 0) rfl
             · simp
             · omega
             · omega
             intro g4 cap4 w4 hp
             have HP := Lib.hid hp
             clear hp)
          | (go_simp
             go_at_call 36
             refine BT.out.mono ?_
             rintro e3 w3 ⟨rfl, a3, m3, o3⟩
             have A3 := Lib.hid a3
             have M3 : Hid (Mdl.IsR w3 m h cap AP true) := Lib.hid (by rw [next_fixed] at m3; exact m3)
             have o3' : Only (fun i => i = d ∨ (i = m ∨ i = h)) wr w3 := ⟨o3.os, o3.tape, o3.output, o3.size, o3.block⟩
             have R3 := Lib.hid (R2.out.only o3' (fun g hg hx => by have := N2.out g hg; have := hle; omega))
             have O3 := Lib.hid (O2.out.trans o3')
             have dk3 := HDK.out w3 o3'
             have HW3 : Hid (wr.heap.size ≤ w3.heap.size) := Lib.hid o3'.size
             clear a3 m3 o3 o3'))
        all_goals (
          have lm2 := M2.out.blk.lt
          have lh2 := M2.out.row.lt
          have l3 := O3.out.size
          have lw : wr.heap.size ≤ w3.heap.size := HW3.out
          have R4 := Lib.hid (Sl.row HP.out.row)
          have N4 : Hid (w.heap.size ≤ g4 ∧ g4 ≠ m ∧ g4 ≠ h) := Lib.hid (by
            rcases HP.out.at_ with h1 | h1
            · exact N2.out g4 h1
            · omega)
          have bA : Below w3.heap.size w3 (w3.alloc (.cells #[.int .i64 z] 3)) := (Below.refl _ _).alloc (Nat.le_refl _) _
          have A4 := Lib.hid ((A3.out.below bA).only HP.out.only (fun hx => by have := N2.out _ hx; omega) (fun g hg hx => by have := N2.out _ hx; have := vlt.out g hg; omega))
          have M4 : Hid (Mdl.IsR w4 m h cap AP true) := Lib.hid ((M3.out.only (Only.of_below bA : Only (fun _ => False) _ _) (fun x => x) (fun x => x)).only HP.out.only (fun hx => (N2.out _ hx).2.1 rfl) (fun hx => (N2.out _ hx).2.2 rfl))
          have O4 : Hid (Only (fun i => i = d ∨ (i = m ∨ i = h)) w w4) := Lib.hid ((O3.out.trans (Only.of_below bA)).then HP.out.only (fun i hi => .inr (N2.out i hi).1))
          clear A3 M3 R3 O3 A2 M2 R2 O2 bA
          go_wp2
          go_roundw
          case rel =>
            refine ⟨k + 1, by omega, by push_cast; rfl, Lib.hid (by rw [HN1.out]; exact A4.out), M4, Lib.hid ?_, fun g hg => ?_, O4⟩
            · have := R4.out
              rw [List.length_append, HL.out, List.length_singleton] at this
              rw [HN2.out]; exact this
            · have hg : some g4 = some g := hg
              injection hg with hg
              have := N4.out
              subst hg
              exact this
          case measure => simp [intOf]; omega)
      · obtain rfl : k = 21 := by omega
        have RC := Lib.hid (RRight_calls (Src.of_sl R2.out) (by rw [hl]; decide))
        clear hl
        go_wp2_with fail
        refine RC.out.mono ?_
        rintro e3 w3 ⟨rfl, he⟩
        subst w3
        have OO : At d w wr := ⟨O2.out.os, O2.out.tape, O2.out.output, O2.out.size, fun i hi hn => O2.out.block i hi (fun hx => by
          rcases hx with hx | hx
          · exact hn hx
          · omega)⟩
        have OO := Lib.hid OO
        go_wp2_with fail
        go_ret2
        exact ⟨_, rfl, R2.out, fun g hg => (N2.out g hg).1, A2.out, OO.out⟩
end Go.Proofs.Ytlbjoflmfboeeaa.Erg

/-
  The walks of slices.Equal at equal lists, and of law 10's ceilings; no condition but those told.
-/
set_option linter.unusedVariables false
set_option linter.unusedSimpArgs false
namespace Go.Proofs.Ytlbjoflmfboeeaa.Erg
open Go.RowKit Go.Proofs.Ytlbjoflmfboeeaa Go.Proofs.YtlbjoflmfboeeaaW.PrintWords

set_option maxRecDepth 100000 in
theorem Equal_same {w : World} {u u' : Value} {l : List Int} (s1 : Src w .i64 u l) (s2 : Src w .i64 u' l) (hl : l.length ≤ 1000000000) :
    Calls Try.prog 45 #[u, u'] w fun e w' => e = .returned (.bool true) ∧ ∃ n, w' = w.drewN n := by
  have S1 := Lib.hid s1
  have S2 := Lib.hid s2
  obtain ⟨A, c, rfl, _⟩ := s1
  obtain ⟨A', c', rfl, _⟩ := s2
  obtain ⟨n, hn⟩ : ∃ n, l.length = n := ⟨_, rfl⟩
  rw [hn] at S1 S2 hl ⊢
  have HN := Lib.hid hn
  clear hn
  go_enter Try.func45, Try.ntmps45
  go_wp2
  go_loopw [13] (fun i wr => ∃ k : Nat, k ≤ n ∧ i = .int .i64 (k : Int) ∧ ∃ q, wr = w.drewN q) (fun i _ => n - (intOf i).toNat)
  case atStart => exact ⟨0, by omega, rfl, 0, rfl⟩
  case round =>
    obtain ⟨k, hk, rfl, q, rfl⟩ := hrel
    by_cases hlt : k < n
    · obtain ⟨ad, rfl, d1⟩ := S1.out.cell (j := k) (by rw [HN.out]; exact hlt)
      obtain ⟨ad', rfl, d2⟩ := S2.out.cell (j := k) (by rw [HN.out]; exact hlt)
      have d1 : (w.drewN q).cell? (ad.add k) = _ := d1
      have d2 : (w.drewN q).cell? (ad'.add k) = _ := d2
      have ik : (k : Int) < (n : Int) := by omega
      generalize l[k]'(by rw [HN.out]; exact hlt) = x at *
      go_wp2
      go_quiet (fail)
      go_wp2
      go_roundw
      case rel => exact ⟨k + 1, by omega, by push_cast; rfl, q + nq, rfl⟩
      case measure => simp [intOf]; omega
    · obtain rfl : k = n := by omega
      go_wp2
      go_ret
      exact ⟨rfl, q, rfl⟩
/-- Right ceilings of any bytes. -/
def cf (bs : List Int) (i : Nat) : Int := if bs.length = 0 then 0 else bs.getD (i % bs.length) 0 % 27
def cl (bs : List Int) : List Int := fillTo (cf bs) 21 21
theorem cl_rt (bs : List Int) : Rt (cl bs) := by
  refine ⟨fillTo_len _ _ _, fun k hk => ?_⟩
  have h21 : k < 21 := by unfold cl at hk; rwa [fillTo_len] at hk
  have e : (cl bs)[k] = cf bs k := fillTo_all' (cf bs) 21 k h21
  show 0 ≤ (cl bs)[k]'hk ∧ (cl bs)[k]'hk ≤ 26
  generalize (cl bs)[k]'hk = y at *
  subst e
  unfold cf
  split <;> omega
set_option maxHeartbeats 1000000 in
set_option maxRecDepth 100000 in
theorem ceilings_calls {w : World} {u : Value} {bs : List Int} (src : Src w .u8 u bs) (hb : ∀ x ∈ bs, 0 ≤ x ∧ x ≤ 255) (hl : bs.length ≤ 1000000000) :
    Calls Try.prog 41 #[u] w fun e w' => e = .returned (.slice (some ⟨w.heap.size, 0, none⟩) 21 21) ∧ RowI w' 3 .i64 w.heap.size 21 (cl bs) ∧ Below w.heap.size w w' := by
  have hm : ∀ w : World, (Instr.makeSlice 54 (.int .i64 21) (.int .i64 21)).run Try.prog w = .ok (.slice (some ⟨w.heap.size, 0, none⟩) 21 21) (w.alloc (.cells (madeCells #[.int .i64 0] 21) 3)) := fun w => run_make_row' 54 3 (.int .i64 0) 8 Try.underlying54 (by kernel_rfl) rfl .i64 .i64 21 (by omega) (by omega) w
  have S := Lib.hid src
  have HB := Lib.hid hb
  obtain ⟨A, c, rfl, _⟩ := src
  obtain ⟨n, hn⟩ : ∃ n, bs.length = n := ⟨_, rfl⟩
  rw [hn] at S hl ⊢
  have HN := Lib.hid hn
  clear hn hb
  go_enter Try.func41, Try.ntmps41
  go_wp2_with fail
  go_loopw [8] (fun i wr => ∃ k : Nat, k ≤ 21 ∧ i = .int .i64 (k : Int) ∧ Hid (RowI wr 3 .i64 w.heap.size 21 (fillTo (cf bs) 21 k)) ∧ Hid (Below w.heap.size w wr)) (fun i _ => 21 - (intOf i).toNat)
  case atStart => exact ⟨0, by omega, rfl, Lib.hid (by rw [fillTo_zero]; exact RowI.new w _ _ 21 0 (by decide)), ((Below.refl _ _).alloc (Nat.le_refl _) _ : Below _ _ _)⟩
  case round =>
    obtain ⟨k, hk, rfl, HR, HBl⟩ := hrel
    by_cases hlt : k < 21
    · by_cases hz : 0 < n
      · have hkn : k % n < n := Nat.mod_lt _ hz
        obtain ⟨ad, rfl, d1⟩ := (Src.below S.out HBl.out).cell (j := k % n) (by rw [HN.out]; exact hkn)
        have bd := HB.out _ (List.getElem_mem (show k % n < bs.length by rw [HN.out]; exact hkn))
        have HV : Hid (cf bs k = bs[k % n]'(by rw [HN.out]; exact hkn) % 27) := Lib.hid (by
          have h2 := Dig.getD_get bs (k % n) (by rw [HN.out]; exact hkn)
          unfold cf
          rw [if_neg (by rw [HN.out]; omega), ← h2]
          congr 3)
        have HS := Lib.hid (fillTo_set (cf bs) 21 k)
        rw [HV.out] at HS
        have dk := HR.out.cell (i := k) (by rw [fillTo_len]; exact hlt)
        have fk := HR.out.free k
        generalize bs[k % n]'(by rw [HN.out]; exact hkn) = x at *
        generalize (fillTo (cf bs) 21 k)[k]'(by rw [fillTo_len]; exact hlt) = y at *
        obtain ⟨j, hj⟩ : ∃ j, k % n = j := ⟨_, rfl⟩
        rw [hj] at d1 hkn
        have e1 : Int.tmod (k : Int) (n : Int) = (j : Int) := by rw [← hj, Int.tmod_eq_emod_of_nonneg (by omega)]; exact (Int.natCast_emod k n).symm
        have e2 : (k : Int) % (n : Int) = (j : Int) := by rw [← hj]; exact (Int.natCast_emod k n).symm
        have z1 : (n : Int) ≠ 0 := by omega
        have z2 : ((n : Int) == 0) = false := by rw [beq_eq_false_iff_ne]; omega
        have w1 : IntKind.i64.wrap (j : Int) = (j : Int) := wrapI64 (by omega) (by omega)
        have ij : (j : Int) < (n : Int) := by omega
        have iz : (0 : Int) < (n : Int) := by omega
        clear hj
        go_wp2_with fail
        go_roundw
        case rel => exact ⟨k + 1, by omega, by push_cast; rfl, Lib.hid (by rw [← HS.out]; exact HR.out.set k _), (HBl.out.setCell (p := ⟨w.heap.size, k, none⟩) (Nat.le_refl _) _ : Below _ _ _)⟩
        case measure => simp [intOf]; omega
      · obtain rfl : n = 0 := by omega
        have HV : Hid (cf bs k = 0) := Lib.hid (by unfold cf; rw [if_pos HN.out])
        have HS := Lib.hid (fillTo_skip (cf bs) 21 k HV.out)
        go_wp2_with fail
        go_roundw
        case rel => exact ⟨k + 1, by omega, by push_cast; rfl, Lib.hid (by rw [← HS.out]; exact HR.out), HBl⟩
        case measure => simp [intOf]; omega
    · obtain rfl : k = 21 := by omega
      go_wp2_with fail
      go_ret
      exact ⟨rfl, HR.out, HBl.out⟩
end Go.Proofs.Ytlbjoflmfboeeaa.Erg

/-
  Law 10: EnergyGets; no condition.
-/
set_option linter.unusedVariables false
set_option linter.unusedSimpArgs false
namespace Go.Proofs.Ytlbjoflmfboeeaa.Erg
open Go.RowKit Go.Proofs.Ytlbjoflmfboeeaa Go.Proofs.YtlbjoflmfboeeaaW.PrintWords Go.Proofs.Ytlbjoflmfboeeaa.Deco

attribute [local irreducible] Deco.openS dget cl
set_option maxHeartbeats 4000000 in
set_option maxRecDepth 100000 in
theorem gets_law (a0 : Option Addr) (len0 cap0 : Nat) (z0 : List Int) (a1 : Option Addr) (len1 cap1 : Nat) (z1 : List Int) (W : World) (h0 : IsRow .u8 W a0 len0 cap0 z0) (y0 : len0 * 1 ≤ 140737488351232) (h1 : IsRow .u8 W a1 len1 cap1 z1) (y1 : len1 * 1 ≤ 140737488351232) :
    Calls Try.prog 9 #[.slice a0 len0 cap0, .slice a1 len1 cap1] W fun e w' => e = .returned (.bool true) ∧ Below W.heap.size W w' := by
  by_cases hs : 300 < len0 ∨ 60 < len1
  · by_cases hs1 : 300 < len0
    · go_enter Try.func9, Try.ntmps9
      go_wp2_with fail
      refine (lives_calls _).mono ?_
      rintro e1 w1 ⟨rfl, b1⟩
      have B1 := Lib.hid b1
      have s1 := b1.size
      clear b1
      go_wp2_with fail
      refine (lives_on B1.out s1).mono ?_
      rintro e2 w2 ⟨rfl, b2⟩
      have B2 := Lib.hid b2
      clear b2
      go_wp2_with fail
      go_ret
      exact ⟨rfl, B2.out⟩
    · have hs2 : 60 < len1 := by omega
      clear hs
      go_enter Try.func9, Try.ntmps9
      go_wp2_with fail
      refine (lives_calls _).mono ?_
      rintro e1 w1 ⟨rfl, b1⟩
      have B1 := Lib.hid b1
      have s1 := b1.size
      clear b1
      go_wp2_with fail
      refine (lives_on B1.out s1).mono ?_
      rintro e2 w2 ⟨rfl, b2⟩
      have B2 := Lib.hid b2
      clear b2
      go_wp2_with fail
      go_ret
      exact ⟨rfl, B2.out⟩
  have hs1 : len0 ≤ 300 := by omega
  have hs2 : len1 ≤ 60 := by omega
  clear hs
  have SB := Lib.hid h0.src
  have SA := Lib.hid h1.src
  have BY : Hid (Byt (z0.take len0)) := Lib.hid ⟨fun x hx => wf_u8 (h0.wf x hx), by rw [h0.take_len]; omega⟩
  have WA : Hid (∀ x ∈ z1.take len1, 0 ≤ x ∧ x ≤ 255) := Lib.hid (fun x hx => wf_u8 (h1.wf x hx))
  have L0 := h0.take_len
  have L1 := h1.take_len
  clear h0 h1 y0 y1
  generalize z0.take len0 = bs at *
  generalize z1.take len1 = av at *
  subst L0 L1
  have k1 : decide ((300 : Int) < (bs.length : Int)) = false := decide_eq_false (by omega)
  have k2 : decide ((60 : Int) < (av.length : Int)) = false := decide_eq_false (by omega)
  go_enter Try.func9, Try.ntmps9
  go_wp2_with fail
  refine (lives_calls _).mono ?_
  rintro e1 w1 ⟨rfl, b1⟩
  have B1 := Lib.hid b1
  have s1 := b1.size
  clear b1
  have CC := Lib.hid (ceilings_calls (Src.below SA.out B1.out) WA.out (by omega))
  go_wp2_with fail
  refine CC.out.mono ?_
  rintro e2 w2 ⟨rfl, r2, b2⟩
  have R2 := Lib.hid r2
  have B2 : Hid (Below W.heap.size W w2) := Lib.hid (B1.out.trans (b2.mono s1))
  have s2 := b2.size
  have lr2 := r2.lt
  clear r2 b2 B1 CC
  generalize w1.heap.size = G at *
  have HK0 : Hid (Blk (w2.alloc (.cells #[.slice none 0 0, .slice (some ⟨G, 0, none⟩) 21 21] 54)) w2.heap.size 54 #[.slice none 0 0, .slice (some ⟨G, 0, none⟩) 21 21]) := Lib.hid (Blk.new w2 _ _)
  have HR0 := Lib.hid (R2.out.alloc (.cells #[.slice none 0 0, .slice (some ⟨G, 0, none⟩) 21 21] 54))
  have HB0 : Hid (Below W.heap.size W (w2.alloc (.cells #[.slice none 0 0, .slice (some ⟨G, 0, none⟩) 21 21] 54))) := Lib.hid (B2.out.alloc (by omega) _)
  clear R2 B2
  go_wp2_with fail
  generalize w2.heap.size = K at *
  go_loopw [30] (fun u wr => ∃ k : Nat, k ≤ 2 ∧ u = .int .i64 (k : Int) ∧ Hid (Blk wr K 54 #[.slice none 0 0, .slice (some ⟨G, 0, none⟩) 21 21]) ∧ Hid (RowI wr 3 .i64 G 21 (cl av)) ∧ Hid (Below W.heap.size W wr)) (fun u _ => 2 - (intOf u).toNat)
  case atStart => exact ⟨0, by omega, rfl, HK0, HR0, HB0⟩
  case round =>
    clear HK0 HR0 HB0
    obtain ⟨k, hk, rfl, HK, HR, HB⟩ := hrel
    rcases (show k = 0 ∨ k = 1 ∨ k = 2 by omega) with rfl | rfl | rfl
    · have d7 := HK.out.cell (i := 0) rfl
      have SRC : Hid (Src wr .i64 (Value.slice none 0 0) (([] : List Int))) := Lib.hid (Src.of_sl (Sl.nil wr 3 .i64))
      have RAH : Hid ((([] : List Int)).length = 0 ∨ Rt (([] : List Int))) := Lib.hid (.inl rfl)
      have OWN : Hid (0 < (([] : List Int)).length → ∀ g, (Value.slice none 0 0).ownBlock = some g → g = G) := Lib.hid (fun h => absurd h (by decide))
      obtain ⟨ll, hll⟩ : ∃ ll, ([] : List Int) = ll := ⟨_, rfl⟩
      rw [hll] at SRC RAH OWN
      clear hll
      have lw := HB.out.size
      have lG := HR.out.lt
      have lB := HK.out.lt
      go_wp2_with fail
      refine (New_calls (Src.below SB.out HB.out) BY.out).mono ?_
      rintro e3 w3 ⟨d, v3, rfl, hd, ho3, i3, b3⟩
      have I3 := Lib.hid i3
      have s3 := b3.size
      have B3 : Hid (Below W.heap.size W w3) := Lib.hid (HB.out.trans (b3.mono (by omega)))
      have GY := Lib.hid (Get_yes I3.out (open_ready bs BY.out) (by rw [show (openS bs).n = 4 from by unfold openS; rfl]; decide) (Src.below SRC.out b3) RAH.out (fun hp g hg => by have := OWN.out hp g hg; omega))
      have S3 := Lib.hid (Src.below SRC.out b3)
      have K3 := Lib.hid (HK.out.below b3 (by omega))
      have R3 := Lib.hid (HR.out.below b3 (by omega))
      clear i3 b3 ho3
      go_wp2_with fail
      refine GY.out.mono ?_
      rintro e4 w4 ⟨hres, i4, o4⟩
      have B4 : Hid (Below W.heap.size W w4) := Lib.hid (B3.out.trans (o4.below (by omega) (fun i hi => by omega)))
      have S4 := Lib.hid (S3.out.same (w' := w4) (fun g hg hp => o4.block g (S3.out.lt hg hp) (fun hx => by have := OWN.out hp g hg; omega)))
      have K4 := Lib.hid (K3.out.of_same (o4.block K K3.out.lt (by omega)))
      have R4 := Lib.hid (R3.out.of_same (o4.block G R3.out.lt (by omega)))
      have s4 := o4.size
      clear i4 GY I3 S3 K3 R3 B3
      have OC := Lib.hid (Open_calls (Src.below SB.out B4.out) BY.out)
      have FIN : Hid (∀ w5 rd v5, Below w4.heap.size w4 w5 → w4.heap.size ≤ rd → (∀ g, v5.ownBlock = some g → w4.heap.size ≤ g) → Is w5 rd 69 .i64 (openS bs) v5 → Calls Try.prog 46 #[.pointer (some ⟨rd, 0, none⟩), Value.slice none 0 0] w5 (RGPost (dget (openS bs) ll 21) rd v5 w5)) := Lib.hid (fun w5 rd v5 b5 hrd hv i5 =>
        RGet_yes i5 (open_ready bs BY.out) (by rw [show (openS bs).n = 4 from by unfold openS; rfl]; decide) (Src.below S4.out b5) RAH.out (fun hp g hg => by have := OWN.out hp g hg; have := b5.size; omega))
      rcases hres with ⟨hr, g, cap, rfl, hg, rg⟩ | ⟨hr, rfl⟩
      all_goals (
        go_wp2_with fail
        refine OC.out.mono ?_
        rintro e5 w5 ⟨rd, v5, rfl, hrd, hv5, i5, b5⟩
        have GZ := Lib.hid (FIN.out w5 rd v5 b5 hrd hv5 i5)
        have s5 := b5.size
        have B5 : Hid (Below W.heap.size W w5) := Lib.hid (B4.out.trans (b5.mono (by omega)))
        have K5 := Lib.hid (K4.out.below b5 K4.out.lt)
        have R5 := Lib.hid (R4.out.below b5 R4.out.lt)
        go_wp2_with fail
        refine GZ.out.mono ?_
        rintro e6 w6 ⟨u6, rfl, sl6, ho6, i6, o6⟩
        have B6 : Hid (Below W.heap.size W w6) := Lib.hid (B5.out.trans (o6.below (by omega) (fun i hi => by omega)))
        have K6 := Lib.hid (K5.out.of_same (o6.block K K5.out.lt (by have := K4.out.lt; omega)))
        have R6 := Lib.hid (R5.out.of_same (o6.block G R5.out.lt (by have := R4.out.lt; omega)))
        rw [hr])
      · have R7 := Lib.hid ((rg.below b5 rg.lt).of_same (o6.block g (rg.below b5 rg.lt).lt (by have := rg.lt; omega)))
        have hl := dget_len (openS bs) ll 21
        have EQ := Lib.hid (Equal_same (Src.of_sl (Sl.row R7.out)) (Src.of_sl sl6) (by rw [hl]; decide))
        rw [hl] at EQ
        clear rg b5 o6 i5 i6 sl6 hl
        go_wp2_with fail
        refine EQ.out.mono ?_
        rintro e7 w7 ⟨rfl, nq, rfl⟩
        go_wp2_with fail
        go_roundw
        case rel => exact ⟨1, by omega, rfl, K6.out.drewN nq, R6.out.drewN nq, pw_below_drewN B6.out nq⟩
        case measure => simp [intOf]
      · clear b5 o6 i5 i6 sl6
        go_wp2_with fail
        go_roundw
        case rel => exact ⟨1, by omega, rfl, K6, R6, B6⟩
        case measure => simp [intOf]
    · have d7 := HK.out.cell (i := 1) rfl
      have SRC : Hid (Src wr .i64 (Value.slice (some ⟨G, 0, none⟩) 21 21) (cl av)) := Lib.hid (by have := Src.of_sl (Sl.row HR.out); rwa [(cl_rt av).len] at this)
      have RAH : Hid ((cl av).length = 0 ∨ Rt (cl av)) := Lib.hid (.inr (cl_rt av))
      have OWN : Hid (0 < (cl av).length → ∀ g, (Value.slice (some ⟨G, 0, none⟩) 21 21).ownBlock = some g → g = G) := Lib.hid (fun _ g hg => by have hg : some G = some g := hg; injection hg with hg; exact hg.symm)
      obtain ⟨ll, hll⟩ : ∃ ll, cl av = ll := ⟨_, rfl⟩
      rw [hll] at SRC RAH OWN
      clear hll
      have lw := HB.out.size
      have lG := HR.out.lt
      have lB := HK.out.lt
      go_wp2_with fail
      refine (New_calls (Src.below SB.out HB.out) BY.out).mono ?_
      rintro e3 w3 ⟨d, v3, rfl, hd, ho3, i3, b3⟩
      have I3 := Lib.hid i3
      have s3 := b3.size
      have B3 : Hid (Below W.heap.size W w3) := Lib.hid (HB.out.trans (b3.mono (by omega)))
      have GY := Lib.hid (Get_yes I3.out (open_ready bs BY.out) (by rw [show (openS bs).n = 4 from by unfold openS; rfl]; decide) (Src.below SRC.out b3) RAH.out (fun hp g hg => by have := OWN.out hp g hg; omega))
      have S3 := Lib.hid (Src.below SRC.out b3)
      have K3 := Lib.hid (HK.out.below b3 (by omega))
      have R3 := Lib.hid (HR.out.below b3 (by omega))
      clear i3 b3 ho3
      go_wp2_with fail
      refine GY.out.mono ?_
      rintro e4 w4 ⟨hres, i4, o4⟩
      have B4 : Hid (Below W.heap.size W w4) := Lib.hid (B3.out.trans (o4.below (by omega) (fun i hi => by omega)))
      have S4 := Lib.hid (S3.out.same (w' := w4) (fun g hg hp => o4.block g (S3.out.lt hg hp) (fun hx => by have := OWN.out hp g hg; omega)))
      have K4 := Lib.hid (K3.out.of_same (o4.block K K3.out.lt (by omega)))
      have R4 := Lib.hid (R3.out.of_same (o4.block G R3.out.lt (by omega)))
      have s4 := o4.size
      clear i4 GY I3 S3 K3 R3 B3
      have OC := Lib.hid (Open_calls (Src.below SB.out B4.out) BY.out)
      have FIN : Hid (∀ w5 rd v5, Below w4.heap.size w4 w5 → w4.heap.size ≤ rd → (∀ g, v5.ownBlock = some g → w4.heap.size ≤ g) → Is w5 rd 69 .i64 (openS bs) v5 → Calls Try.prog 46 #[.pointer (some ⟨rd, 0, none⟩), Value.slice (some ⟨G, 0, none⟩) 21 21] w5 (RGPost (dget (openS bs) ll 21) rd v5 w5)) := Lib.hid (fun w5 rd v5 b5 hrd hv i5 =>
        RGet_yes i5 (open_ready bs BY.out) (by rw [show (openS bs).n = 4 from by unfold openS; rfl]; decide) (Src.below S4.out b5) RAH.out (fun hp g hg => by have := OWN.out hp g hg; have := b5.size; omega))
      rcases hres with ⟨hr, g, cap, rfl, hg, rg⟩ | ⟨hr, rfl⟩
      all_goals (
        go_wp2_with fail
        refine OC.out.mono ?_
        rintro e5 w5 ⟨rd, v5, rfl, hrd, hv5, i5, b5⟩
        have GZ := Lib.hid (FIN.out w5 rd v5 b5 hrd hv5 i5)
        have s5 := b5.size
        have B5 : Hid (Below W.heap.size W w5) := Lib.hid (B4.out.trans (b5.mono (by omega)))
        have K5 := Lib.hid (K4.out.below b5 K4.out.lt)
        have R5 := Lib.hid (R4.out.below b5 R4.out.lt)
        go_wp2_with fail
        refine GZ.out.mono ?_
        rintro e6 w6 ⟨u6, rfl, sl6, ho6, i6, o6⟩
        have B6 : Hid (Below W.heap.size W w6) := Lib.hid (B5.out.trans (o6.below (by omega) (fun i hi => by omega)))
        have K6 := Lib.hid (K5.out.of_same (o6.block K K5.out.lt (by have := K4.out.lt; omega)))
        have R6 := Lib.hid (R5.out.of_same (o6.block G R5.out.lt (by have := R4.out.lt; omega)))
        rw [hr])
      · have R7 := Lib.hid ((rg.below b5 rg.lt).of_same (o6.block g (rg.below b5 rg.lt).lt (by have := rg.lt; omega)))
        have hl := dget_len (openS bs) ll 21
        have EQ := Lib.hid (Equal_same (Src.of_sl (Sl.row R7.out)) (Src.of_sl sl6) (by rw [hl]; decide))
        rw [hl] at EQ
        clear rg b5 o6 i5 i6 sl6 hl
        go_wp2_with fail
        refine EQ.out.mono ?_
        rintro e7 w7 ⟨rfl, nq, rfl⟩
        go_wp2_with fail
        go_roundw
        case rel => exact ⟨2, by omega, rfl, K6.out.drewN nq, R6.out.drewN nq, pw_below_drewN B6.out nq⟩
        case measure => simp [intOf]
      · clear b5 o6 i5 i6 sl6
        go_wp2_with fail
        go_roundw
        case rel => exact ⟨2, by omega, rfl, K6, R6, B6⟩
        case measure => simp [intOf]
    · go_wp2_with fail
      go_ret
      exact ⟨rfl, HB.out⟩
end Go.Proofs.Ytlbjoflmfboeeaa.Erg
