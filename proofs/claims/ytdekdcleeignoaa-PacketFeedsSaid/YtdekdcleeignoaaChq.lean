/-
  The walk of the document's own check sum, and plain laws of it; no condition.
-/
import Derived.Test.YtdekdcleeignoaaChp
set_option linter.unusedVariables false
set_option linter.unusedSimpArgs false
namespace Go.Proofs.Ytdekdcleeignoaa.Chk
open Go.RowKit Go.Proofs.Ytdekdcleeignoaa Go.Proofs.YtdekdcleeignoaaW.PrintWords Go.Proofs.YtdekdcleeignoaaW.PrintLast Go.Proofs.YtdekdcleeignoaaW.PrintMore

theorem T_bit (c : W) (b : Bool) : T (c ^^^ b01 b) = (c >>> 1) ^^^ (if c.getLsbD 0 = b then 0#32 else P) := by
  unfold T
  rw [BitVec.ushiftRight_xor_distrib, BitVec.getLsbD_xor]
  have h1 : b01 b >>> 1 = 0#32 := by cases b <;> decide
  have h2 : (b01 b).getLsbD 0 = b := by cases b <;> decide
  rw [h1, h2]
  cases c.getLsbD 0 <;> cases b <;> simp
def z01 (b : Bool) : Int := if b then 1 else 0
theorem lsb_mod (c : W) : (c.toNat : Int) % 2 = z01 (c.getLsbD 0) := by
  unfold z01
  rw [BitVec.getLsbD, Nat.testBit_zero]
  by_cases h : c.toNat % 2 = 1
  · simp [h]; omega
  · simp [h]; omega
theorem lsb_tmod (c : W) : Int.tmod (c.toNat : Int) 2 = z01 (c.getLsbD 0) := by
  rw [Int.tmod_eq_emod_of_nonneg (by omega)]; exact lsb_mod c
theorem div2 (c : W) : Int.tdiv (c.toNat : Int) 2 % 4294967296 = ((c >>> 1).toNat : Int) := by
  have h := shr_w c 1
  rw [show (2 : Int) ^ 1 = 2 from rfl] at h
  rw [Int.tdiv_eq_ediv_of_nonneg (by omega), h]
  have := c.isLt
  omega
theorem byte_bit (x t : Nat) (ht : t < 8) : Int.tmod ((x : Int) / 2 ^ t) 2 = z01 (x.testBit t) := by
  have e : (x : Int) / 2 ^ t = ((x / 2 ^ t : Nat) : Int) := rfl
  rw [e, Int.tmod_eq_emod_of_nonneg (Int.natCast_nonneg _), Nat.testBit_eq_decide_div_mod_eq]
  unfold z01
  by_cases h : x / 2 ^ t % 2 = 1
  · simp [h]; omega
  · simp [h]; omega
theorem z_eq {a b : Bool} (h : (z01 a != z01 b) = false) : a = b := by revert h; cases a <;> cases b <;> decide
theorem z_ne {a b : Bool} (h : (z01 a != z01 b) = true) : ¬a = b := by revert h; cases a <;> cases b <;> decide
theorem half2 (c : W) : (c.toNat : Int) / (2 : Int) = ((c >>> 1).toNat : Int) := by
  have h := shr_w c 1
  rw [show (2 : Int) ^ 1 = 2 from rfl] at h
  exact h.symm
theorem half2x (c : W) : Go.bits .xor .u32 ((c.toNat : Int) / (2 : Int)) 2197175160 = (((c >>> 1) ^^^ P).toNat : Int) := by
  rw [half2, show (2197175160 : Int) = (P.toNat : Int) from rfl, xor_w]
theorem crc_int (l : List Nat) : (4294967295 : Int) - ((F (4294967295#32) l).toNat : Int) = ((crc l).toNat : Int) := by
  unfold crc
  rw [show (~~~0#32 : W) = 4294967295#32 from by decide, BitVec.toNat_not]
  have := (F (4294967295#32) l).isLt
  omega
theorem byte_take (x t : Nat) (ht : t < 8) : (byteBits x).take (t + 1) = (byteBits x).take t ++ [x.testBit t] := by
  rw [List.take_succ_eq_append_getElem (by rw [byteBits_len]; exact ht)]
  simp [byteBits]
theorem B_snoc (c : W) (l : List Bool) (b : Bool) : B c (l ++ [b]) = T (B c l ^^^ b01 b) := by rw [B_append]; rfl
set_option maxHeartbeats 4000000 in
set_option maxRecDepth 100000 in
theorem RefOf_calls (l : List Nat) (hl : ∀ x ∈ l, x < 256) (len : Nat) (hlen : l.length = len) (hm : len < 1000000) (w : World) (A : Option Addr) (cap : Nat) (hr : (Kd.int .u8).C w A (ints l).length (ints l)) :
    Calls Try.prog 22 #[.slice A len cap] w fun e w' => e = .returned (.int .u32 ((crc l).toNat : Int)) ∧ w' = w := by
  go_enter Try.func22, Try.ntmps22
  go_wp2
  go_loopw [3, 4] (fun v i wr => ∃ j : Nat, j ≤ len ∧ i = .int .i64 j ∧ v = .int .u32 ((F (~~~0#32) (l.take j)).toNat : Int) ∧ wr = w) (fun _ i _ => len - (intOf i).toNat)
  case atStart => exact ⟨0, by omega, rfl, rfl, rfl⟩
  case round =>
    obtain ⟨j, hj, rfl, rfl, rfl⟩ := hrel
    by_cases hjl : j < len
    · have hx : j < l.length := by omega
      have hF : F (~~~0#32) (l.take (j + 1)) = B (F (~~~0#32) (l.take j)) (byteBits l[j]) := by
        rw [List.take_succ_eq_append_getElem hx, F_append]
        unfold F
        rw [bitsOf_cons, show bitsOf [] = [] from rfl, List.append_nil]
      have hxb := hl _ (List.getElem_mem hx)
      obtain ⟨ad, rfl, d2⟩ := cell_C hr (i := j) (by rw [ints_len]; omega)
      have hei : (ints l)[j]'(by rw [ints_len]; omega) = (l[j] : Int) := by simp [ints]
      rw [hei] at d2
      have HF := Lib.hid hF
      clear hF hei
      generalize F (~~~0#32) (l.take j) = cc at *
      generalize l[j] = x at *
      go_wp2
      go_loopw [3, 5] (fun v i wq => ∃ t : Nat, t ≤ 8 ∧ i = .int .i64 t ∧ v = .int .u32 ((B cc ((byteBits x).take t)).toNat : Int) ∧ wq = wr) (fun _ i _ => 8 - (intOf i).toNat)
      case atStart => exact ⟨0, by omega, rfl, rfl, rfl⟩
      case round =>
        obtain ⟨t, ht, rfl, rfl, rfl⟩ := hrel
        by_cases ht8 : t < 8
        · go_wp2
          all_goals (
            rename_i hh
            rw [lsb_mod, byte_bit _ _ ht8] at hh
            refine ⟨⟨t + 1, by omega, by push_cast; rfl, ?_, trivial⟩, by simp [intOf]; omega⟩
            rw [byte_take _ _ ht8, B_snoc, T_bit]
            first
            | (rw [if_pos (z_eq hh), BitVec.xor_zero]; exact congrArg (Value.int .u32) (half2 _))
            | (rw [if_neg (z_ne hh)]; exact congrArg (Value.int .u32) (half2x _)))
        · obtain rfl : t = 8 := by omega
          go_wp2
          refine ⟨⟨j + 1, by omega, by push_cast; rfl, ?_, trivial⟩, by simp [intOf]; omega⟩
          rw [HF.out, List.take_of_length_le (by rw [byteBits_len]; omega)]
    · obtain rfl : j = len := by omega
      go_wp2
      go_ret
      refine ⟨?_, rfl⟩
      show Ending.returned (Value.int .u32 (4294967295 - ((F (4294967295#32) (l.take j)).toNat : Int))) = _
      rw [List.take_of_length_le (by omega), crc_int]
end Go.Proofs.Ytdekdcleeignoaa.Chk
