/-
  The walk of the document's Bytes; no condition but those told.
-/
import Derived.Test.YtlbjoflmfboeeaaRes
set_option linter.unusedVariables false
set_option linter.unusedSimpArgs false
namespace Go.Proofs.Ytlbjoflmfboeeaa.Enc
open Go.RowKit Go.Proofs.Ytlbjoflmfboeeaa Go.Proofs.YtlbjoflmfboeeaaW.PrintWords Go.Proofs.Ytlbjoflmfboeeaa.Dig

/-- A slice of bytes of the call's own. -/
def BPost (l : List Int) (w : World) (en : Ending) (w' : World) : Prop := ∃ v', en = .returned v' ∧ Sl w' 5 .u8 v' l ∧ (∀ g, v'.ownBlock = some g → w.heap.size ≤ g) ∧ Below w.heap.size w w'
set_option maxHeartbeats 4000000 in
set_option maxRecDepth 100000 in
theorem RBytes_calls {w : World} {e g c : Nat} {R : RSt} (a : RIs w e R g c) (dig : ∀ x ∈ R.D, 0 ≤ x ∧ x ≤ 255) (small : R.D.length ≤ 900000000) :
    Calls Try.prog 31 #[.pointer (some ⟨e, 0, none⟩)] w (BPost (strip R.D) w) := by
  have d0 := a.blk.cell (i := 0) rfl
  have A := Lib.hid a
  have HD := Lib.hid dig
  have hle := a.blk.lt
  have hlg := a.row.lt
  clear a dig
  obtain ⟨len, hl⟩ : ∃ len, R.D.length = len := ⟨_, rfl⟩
  have HL := Lib.hid hl
  rw [hl] at d0 small
  clear hl
  go_enter Try.func31, Try.ntmps31
  go_wp2
  go_loopw [4, 5] (fun vl vi wr => ∃ (k n : Nat) (z : Int), k ≤ len ∧ n ≤ k ∧ vi = .int .i64 (k : Int) ∧ vl = .int .i64 z ∧ z + 1 = (n : Int) ∧ Hid (strip (R.D.take k) = R.D.take n) ∧ wr = w) (fun _ vi _ => len - (intOf vi).toNat)
  case atStart => exact ⟨0, 0, -1, by omega, by omega, rfl, rfl, rfl, rfl, rfl⟩
  case round =>
    obtain ⟨k, n, z, hk, hn, rfl, rfl, hz, HS, rfl⟩ := hrel
    by_cases hlt : k < len
    · have ck := A.out.row.cell (i := k) (by rw [HL.out]; omega)
      have HT := Lib.hid (strip_take R.D k (by rw [HL.out]; omega))
      have ib : (k : Int) < (len : Int) := by omega
      generalize R.D[k]'(by rw [HL.out]; omega) = y at *
      by_cases hy : y = 0
      · have z1 : (y == 0) = true := by rw [beq_iff_eq]; exact hy
        have z2 : (y != 0) = false := by rw [hy]; rfl
        have HT2 : Hid (strip (R.D.take (k + 1)) = R.D.take n) := Lib.hid (by rw [HT.out, if_pos hy]; exact HS.out)
        clear hy
        go_wp2
        go_roundw
        case rel => exact ⟨k + 1, n, z, by omega, by omega, by push_cast; rfl, rfl, hz, HT2, trivial⟩
        case measure => simp [intOf]; omega
      · have z1 : (y == 0) = false := by rw [beq_eq_false_iff_ne]; exact hy
        have z2 : (y != 0) = true := by rw [bne_iff_ne]; exact hy
        have HT2 : Hid (strip (R.D.take (k + 1)) = R.D.take (k + 1)) := Lib.hid (by rw [HT.out, if_neg hy])
        clear hy
        go_wp2
        go_roundw
        case rel => exact ⟨k + 1, k + 1, k, by omega, by omega, by push_cast; rfl, rfl, by push_cast; rfl, HT2, trivial⟩
        case measure => simp [intOf]; omega
    · obtain rfl : k = len := by omega
      have HF : Hid (strip R.D = R.D.take n) := Lib.hid (by have := HS.out; rw [List.take_of_length_le (by rw [HL.out]; omega)] at this; exact this)
      clear HS
      go_wp2
      obtain ⟨w, rfl⟩ : ∃ w : World, w = wr := ⟨_, rfl⟩
      go_loopw [3, 6] (fun vo vi wq => ∃ (i : Nat) (v : Value), i ≤ n ∧ vi = .int .i64 (i : Int) ∧ vo = v ∧ Hid (Sl wq 5 .u8 v (R.D.take i)) ∧ Hid (∀ b, v.ownBlock = some b → w.heap.size ≤ b) ∧ Hid (Below w.heap.size w wq)) (fun _ vi _ => n - (intOf vi).toNat)
      case atStart => exact ⟨0, _, by omega, rfl, rfl, Sl.nil _ _ _, fun b hb => (by cases hb), Below.refl _ _⟩
      case round =>
        obtain ⟨i, v, hi, rfl, rfl, HS, HB, HW⟩ := hrel
        by_cases hlt2 : i < n
        · have hwq := HW.out.size
          have x0 : wr.cell? ⟨e, 0, none⟩ = some (.slice (some ⟨g, 0, none⟩) k c) := (HW.out.cell (p := ⟨e, 0, none⟩) hle).trans d0
          have ci := (A.out.row.below HW.out hlg).cell (i := i) (by rw [HL.out]; omega)
          have hy := HD.out _ (List.getElem_mem (show i < R.D.length by rw [HL.out]; omega))
          have HTk := Lib.hid (List.take_succ_eq_append_getElem (show i < R.D.length by rw [HL.out]; omega))
          have hli : (R.D.take i).length = i := by rw [List.length_take, HL.out]; omega
          have HLi := Lib.hid hli
          have ib : (i : Int) < (k : Int) := by omega
          generalize R.D[i]'(by rw [HL.out]; omega) = y at *
          clear hli
          go_wp2_with (first
            | (at_builtin; refine wpList_push (.tmp 30) (.tmp 39) 35 5 .u8 0 1 rfl rfl Try.underlying35 info_u8 _ (R.D.take i) i y ⟨wr.heap.size, 0, none⟩ (wr.heap.size + 1) rfl rfl (HS.out.alloc _) HLi.out ?_ ?_ ?_ ?_ ?_
               · exact (Blk.new wr _ _).cell (i := 0) rfl
               · simp
               · omega
               · omega
               intro g2 cap2 w2 hp
               have HP := Lib.hid hp
               clear hp))
          go_roundw
          case rel =>
            have hl2 : (R.D.take i ++ [y]).length = i + 1 := by rw [List.length_append, HLi.out]; rfl
            have hs := Sl.row HP.out.row
            rw [hl2, ← HTk.out] at hs
            refine ⟨i + 1, _, by omega, by push_cast; rfl, rfl, hs, fun b hb => ?_, ((HW.out.alloc hwq _).trans (HP.out.only.below (B := w.heap.size) (by simp; omega) (fun q hq => HB.out q hq)))⟩
            have e : g2 = b := Option.some.inj hb
            rcases HP.out.at_ with h | h
            · exact HB.out b (by rw [← e]; exact h)
            · omega
          case measure => simp [intOf]; omega
        · obtain rfl : i = n := by omega
          have d5 : decide ((i : Int) ≤ z) = false := decide_eq_false (by omega)
          go_wp2
          go_ret
          exact ⟨_, rfl, by rw [HF.out]; exact HS.out, HB.out, HW.out⟩
end Go.Proofs.Ytlbjoflmfboeeaa.Enc
