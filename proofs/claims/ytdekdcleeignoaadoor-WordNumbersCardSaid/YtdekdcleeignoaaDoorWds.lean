/-
  Words: sealed texts; the program's. No condition but those told.
-/
import Derived.Test.YtdekdcleeignoaaDoorWdt
set_option linter.unusedVariables false
set_option linter.unusedSimpArgs false
namespace Go.Proofs.YtdekdcleeignoaaDoor.Wd
open Go.RowKit Go.Proofs
/-- The letter of a value. -/
def lt (k : Nat) : UInt8 := (#[65, 66, 67, 68, 69, 70, 71, 72, 73, 74, 75, 76, 77, 78, 79, 80, 81, 82, 83, 84, 85, 86, 87, 88, 89, 90, 97, 98, 99, 100, 101, 102, 103, 104, 105, 106, 107, 108, 109, 110, 111, 112, 113, 114, 115, 116, 117, 118, 119, 120, 121, 122, 48, 49, 50, 51, 52, 53, 54, 55, 56, 57, 43, 47] : Array UInt8).getD k 0
theorem lb (k : Nat) (h : k < (⟨#[65, 66, 67, 68, 69, 70, 71, 72, 73, 74, 75, 76, 77, 78, 79, 80, 81, 82, 83, 84, 85, 86, 87, 88, 89, 90, 97, 98, 99, 100, 101, 102, 103, 104, 105, 106, 107, 108, 109, 110, 111, 112, 113, 114, 115, 116, 117, 118, 119, 120, 121, 122, 48, 49, 50, 51, 52, 53, 54, 55, 56, 57, 43, 47]⟩ : ByteArray).size) : (⟨#[65, 66, 67, 68, 69, 70, 71, 72, 73, 74, 75, 76, 77, 78, 79, 80, 81, 82, 83, 84, 85, 86, 87, 88, 89, 90, 97, 98, 99, 100, 101, 102, 103, 104, 105, 106, 107, 108, 109, 110, 111, 112, 113, 114, 115, 116, 117, 118, 119, 120, 121, 122, 48, 49, 50, 51, 52, 53, 54, 55, 56, 57, 43, 47]⟩ : ByteArray)[k]'h = lt k := by
  unfold lt
  show (#[65, 66, 67, 68, 69, 70, 71, 72, 73, 74, 75, 76, 77, 78, 79, 80, 81, 82, 83, 84, 85, 86, 87, 88, 89, 90, 97, 98, 99, 100, 101, 102, 103, 104, 105, 106, 107, 108, 109, 110, 111, 112, 113, 114, 115, 116, 117, 118, 119, 120, 121, 122, 48, 49, 50, 51, 52, 53, 54, 55, 56, 57, 43, 47] : Array UInt8)[k]'h = _
  rw [Array.getD_eq_getD_getElem?, Array.getElem?_eq_getElem h]
  rfl
def drain : Nat → Nat → Nat → List UInt8 → Nat × Nat × List UInt8
  | 0, n, b, acc => (n, b, acc)
  | f + 1, n, b, acc => if 6 ≤ n then drain f (n - 6) (b % 2 ^ (n - 6)) (acc ++ [lt (b / 2 ^ (n - 6))]) else (n, b, acc)
theorem drain_to {f n b : Nat} {acc : List UInt8} (m P : Nat) (h : 6 ≤ n) (hm : n = m + 6) (hP : P = 2 ^ m) : drain (f + 1) n b acc = drain f m (b % P) (acc ++ [lt (b / P)]) := by
  subst hm hP
  conv => lhs; unfold drain
  rw [if_pos h, Nat.add_sub_cancel]
theorem drain_end (f n b : Nat) (acc : List UInt8) (h : n < 6) : drain f n b acc = (n, b, acc) := by
  cases f with
  | zero => rfl
  | succ f => unfold drain; rw [if_neg (by omega)]
def stepS (st : Nat × Nat × List UInt8) (c : Nat) : Nat × Nat × List UInt8 := drain 2 (st.1 + 8) (st.2.1 * 256 + c) st.2.2
def stS (l : List Int) : Nat × Nat × List UInt8 := l.foldl (fun st x => stepS st x.toNat) (0, 0, [])
theorem stS_snoc (l : List Int) (x : Int) : stS (l ++ [x]) = stepS (stS l) x.toNat := by unfold stS; rw [List.foldl_append]; rfl
def pad : Nat → List UInt8 → List UInt8
  | 0, a => a
  | f + 1, a => if a.length % 4 = 0 then a else pad f (a ++ [61])
def endS (st : Nat × Nat × List UInt8) : List UInt8 := if 0 < st.1 then st.2.2 ++ [lt (st.2.1 * 2 ^ (6 - st.1))] else st.2.2
def sealL (l : List Int) : List UInt8 := pad 3 (endS (stS l))
theorem mask {b P : Nat} (m : Nat) (hP : P = 2 ^ m) (hm : m ≤ 60) (hb : b < 2 ^ 60) : Go.bits .and .i64 (b : Int) ((P : Int) - 1) = ((b % P : Nat) : Int) := by
  subst hP
  have h := bits_mask .i64 60 (by decide) (fun n h0 h1 => IntWalk.i64_in _ (by omega)) m hm (b : Int) (by omega) (by exact_mod_cast hb)
  rw [show ((2 ^ m : Nat) : Int) - 1 = 2 ^ m - 1 by simp, h]
  simp
set_option maxHeartbeats 8000000 in
set_option maxRecDepth 100000 in
theorem Seal_h (g off c0 : Nat) (xs : List Int) (len : Nat) (hln : xs.length = len) (w : World) (hc : ∀ j (h : j < xs.length), w.cell? ⟨g, off + j, none⟩ = some (.int .u8 xs[j])) (hb : ∀ x ∈ xs, 0 ≤ x ∧ x < 256) (hl : len ≤ 100000) :
    Calls Tryd.prog 38 #[.slice (some ⟨g, off, none⟩) len c0] w fun e w' => e = .returned (.string ⟨(sealL xs).toArray⟩) ∧ Below w.heap.size w w' := by
  obtain ⟨B, hBw⟩ : ∃ B, w.heap.size = B := ⟨_, rfl⟩
  have HC := Lib.hid hc
  have HBY := Lib.hid hb
  have HLN := Lib.hid hln
  clear hc hb hln
  go_enter Tryd.func38, Tryd.ntmps38
  go_wp2_with fail
  go_loopw [4, 5, 10] (fun u v x wr => ∃ (k bits n : Nat) (acc : List UInt8), k ≤ len ∧ u = .int .i64 (bits : Int) ∧ v = .int .i64 (n : Int) ∧ x = .int .i64 (k : Int) ∧ (n = 0 ∨ n = 2 ∨ n = 4) ∧ bits < 2 ^ n ∧ acc.length ≤ 2 * k ∧ Hid (stS (xs.take k) = (n, bits, acc)) ∧ Hid (Lib.IsBuilderF BT 5 B B (Lib.byteCells acc) wr) ∧ Hid (Below B w wr)) (fun _ _ x _ => len - (Lib.intOf x).toNat)
  case atStart =>
    subst hBw
    exact ⟨0, 0, 0, [], by omega, rfl, rfl, rfl, .inl rfl, by decide, by simp, Lib.hid rfl, Lib.hid (Lib.IsBuilderF.of (Lib.fresh_isBuilder BT 5 w)), Lib.hid ((Below.refl _ w).alloc (Nat.le_refl _) _)⟩
  case round =>
    obtain ⟨k, bits, n, acc, hk, rfl, rfl, rfl, hn, hbn, hal, HS, HI, HB⟩ := hrel
    by_cases hlt : k < len
    · have kl : k < xs.length := by rw [HLN.out]; exact hlt
      have cx0 := HC.out k kl
      have cx : wr.cell? ⟨g, off + k, none⟩ = some (.int .u8 xs[k]) := (Below.cell HB.out (by rw [← hBw]; exact World.block_lt_of_cell? _ _ cx0)).trans cx0
      have cb := HBY.out _ (List.getElem_mem kl)
      obtain ⟨c, hcc⟩ : ∃ c : Nat, xs[k] = (c : Int) := ⟨xs[k].toNat, by omega⟩
      have SN : Hid (stS (xs.take (k + 1)) = stepS (n, bits, acc) c) := Lib.hid (by
        rw [List.take_succ_eq_append_getElem kl, stS_snoc, HS.out, hcc]; rfl)
      rw [hcc] at cx cb
      clear cx0 hcc kl
      have dk : decide ((k : Int) < (len : Int)) = true := decide_eq_true (by omega)
      obtain ⟨b1, hb1⟩ : ∃ b1, bits * 256 = b1 := ⟨_, rfl⟩
      have bb : bits < 16 := by rcases hn with rfl | rfl | rfl <;> omega
      have e1 : IntKind.i64.wrap ((bits : Int) * 256) = (b1 : Int) := by rw [show (bits : Int) * 256 = (b1 : Int) by omega]; exact IntWalk.i64_in _ (by omega)
      have e2 : IntKind.i64.wrap (c : Int) = (c : Int) := IntWalk.i64_in _ (by omega)
      obtain ⟨b2, hb2⟩ : ∃ b2, b1 + c = b2 := ⟨_, rfl⟩
      have E3 : Go.bits .or .i64 (b1 : Int) (c : Int) = (b2 : Int) := by
        rw [bits_join .i64 60 (by decide) (fun n h0 h1 => IntWalk.i64_in _ (by omega)) 8 _ _ (by omega) (by omega) (by omega) (by omega) (by omega) (by omega)]
        omega
      obtain ⟨n8, hn8⟩ : ∃ n8 : Nat, n + 8 = n8 := ⟨_, rfl⟩
      have e4 : (n : Int) + 8 = (n8 : Int) := by omega
      have b2l : b2 < 2 ^ n8 := by rcases hn with rfl | rfl | rfl <;> (subst hn8; omega)
      have n8c : n8 = 8 ∨ n8 = 10 ∨ n8 = 12 := by omega
      have SD : Hid (stepS (n, bits, acc) c = drain 2 n8 b2 acc) := Lib.hid (by unfold stepS; simp only; rw [hb1, hb2, hn8])
      clear hb1 hb2 hn8 bb
      go_wp2_with fail
      clear e1 e2 E3 e4
      go_loopw [4, 5] (fun u v wr2 => ∃ (b n' f : Nat) (acc' : List UInt8), u = .int .i64 (b : Int) ∧ v = .int .i64 (n' : Int) ∧ (n' = 0 ∨ n' = 2 ∨ n' = 4 ∨ n' = 6 ∨ n' = 8 ∨ n' = 10 ∨ n' = 12) ∧ b < 2 ^ n' ∧ n' < 6 * f + 6 ∧ acc'.length + f ≤ 2 * k + 2 ∧ Hid (drain f n' b acc' = drain 2 n8 b2 acc) ∧ Hid (Lib.IsBuilderF BT 5 B B (Lib.byteCells acc') wr2) ∧ Hid (Below B w wr2)) (fun _ v _ => (Lib.intOf v).toNat)
      case atStart => exact ⟨b2, n8, 2, acc, rfl, rfl, by omega, b2l, by omega, by omega, Lib.hid rfl, HI, HB⟩
      case round =>
        clear HI HB cx
        obtain ⟨b, n', f, acc', rfl, rfl, hn', hbn', hf, hal', HD, HI, HB⟩ := hrel
        rcases (show n' < 6 ∨ 6 ≤ n' by omega) with h6 | h6
        · have d6 : decide ((6 : Int) ≤ (n' : Int)) = false := decide_eq_false (by omega)
          have d7 : ¬ (6 : Int) ≤ (n' : Int) := by omega
          have HQ : Hid (stS (xs.take (k + 1)) = (n', b, acc')) := Lib.hid (by rw [SN.out, SD.out, ← HD.out, drain_end _ _ _ _ h6])
          clear HD SD SN
          go_wp2_with fail
          go_roundw
          case rel => exact ⟨k + 1, b, n', acc', by omega, rfl, rfl, by go_num, by omega, hbn', by omega, HQ, HI, HB⟩
          case measure => simp [Lib.intOf]; omega
        obtain ⟨f, rfl⟩ : ∃ f', f = f' + 1 := ⟨f - 1, by omega⟩
        rcases (show n' = 6 ∨ n' = 8 ∨ n' = 10 ∨ n' = 12 by omega) with rfl | rfl | rfl | rfl
        · have bm : b < 64 := hbn'
          have ML := Lib.hid (mask (b := b) (P := 1) 0 rfl (by decide) (by omega))
          have e5 : Go.bits .and .i64 (b : Int) 0 = 0 := by have h := ML.out; rw [Nat.mod_one] at h; exact h
          have WC := Lib.hid (WriteByte_k B B _ (((lt (b)).toNat : Nat) : Int) wr HI.out (by rw [Lib.byteCells_length]; omega) (by have := HB.out.size; omega))
          have HQ : Hid (drain f 0 0 (acc' ++ [lt (b)]) = drain 2 n8 b2 acc) := Lib.hid (by have h := (drain_to (f := f) (n := 6) (b := b) (acc := acc') 0 1 (by decide) rfl rfl).symm.trans HD.out; rw [Nat.mod_one, Nat.div_one] at h; exact h)
          clear HD
          have q1 : b < 64 := by omega
          go_wp2_with fail
          rw [lb]
          refine WC.out.mono ?_
          rintro e5' w5 ⟨rfl, h5, b5, k5⟩
          have HI5 : Hid (Lib.IsBuilderF BT 5 B B (Lib.byteCells (acc' ++ [lt (b)])) w5) := Lib.hid (by rw [Lib.byteCells_append]; exact Or.inr h5)
          have HB5 := Lib.hid (HB.out.trans b5)
          clear h5 b5 k5 WC HI HB
          go_wp2_with fail
          go_roundw
          case rel => exact ⟨0, 0, f, _, by first | rfl | go_num, rfl, by decide, by decide, by omega, by simp only [List.length_append, List.length_singleton]; omega, HQ, HI5, HB5⟩
          case measure => simp [Lib.intOf]
        · have bm : b < 256 := hbn'
          have ML := Lib.hid (mask (b := b) (P := 4) 2 rfl (by decide) (by omega))
          have e5 : Go.bits .and .i64 (b : Int) 3 = ((b % 4 : Nat) : Int) := ML.out
          have WC := Lib.hid (WriteByte_k B B _ (((lt (b / 4)).toNat : Nat) : Int) wr HI.out (by rw [Lib.byteCells_length]; omega) (by have := HB.out.size; omega))
          have HQ : Hid (drain f 2 (b % 4) (acc' ++ [lt (b / 4)]) = drain 2 n8 b2 acc) := Lib.hid ((drain_to 2 4 (by decide) rfl rfl).symm.trans HD.out)
          clear HD
          have q1 : b / 4 < 64 := by omega
          go_wp2_with fail
          rw [lb]
          refine WC.out.mono ?_
          rintro e5' w5 ⟨rfl, h5, b5, k5⟩
          have HI5 : Hid (Lib.IsBuilderF BT 5 B B (Lib.byteCells (acc' ++ [lt (b / 4)])) w5) := Lib.hid (by rw [Lib.byteCells_append]; exact Or.inr h5)
          have HB5 := Lib.hid (HB.out.trans b5)
          clear h5 b5 k5 WC HI HB
          go_wp2_with fail
          go_roundw
          case rel => exact ⟨b % 4, 2, f, _, by first | rfl | go_num, rfl, by decide, by show b % 4 < 4; omega, by omega, by simp only [List.length_append, List.length_singleton]; omega, HQ, HI5, HB5⟩
          case measure => simp [Lib.intOf]
        · have bm : b < 1024 := hbn'
          have ML := Lib.hid (mask (b := b) (P := 16) 4 rfl (by decide) (by omega))
          have e5 : Go.bits .and .i64 (b : Int) 15 = ((b % 16 : Nat) : Int) := ML.out
          have WC := Lib.hid (WriteByte_k B B _ (((lt (b / 16)).toNat : Nat) : Int) wr HI.out (by rw [Lib.byteCells_length]; omega) (by have := HB.out.size; omega))
          have HQ : Hid (drain f 4 (b % 16) (acc' ++ [lt (b / 16)]) = drain 2 n8 b2 acc) := Lib.hid ((drain_to 4 16 (by decide) rfl rfl).symm.trans HD.out)
          clear HD
          have q1 : b / 16 < 64 := by omega
          go_wp2_with fail
          rw [lb]
          refine WC.out.mono ?_
          rintro e5' w5 ⟨rfl, h5, b5, k5⟩
          have HI5 : Hid (Lib.IsBuilderF BT 5 B B (Lib.byteCells (acc' ++ [lt (b / 16)])) w5) := Lib.hid (by rw [Lib.byteCells_append]; exact Or.inr h5)
          have HB5 := Lib.hid (HB.out.trans b5)
          clear h5 b5 k5 WC HI HB
          go_wp2_with fail
          go_roundw
          case rel => exact ⟨b % 16, 4, f, _, by first | rfl | go_num, rfl, by decide, by show b % 16 < 16; omega, by omega, by simp only [List.length_append, List.length_singleton]; omega, HQ, HI5, HB5⟩
          case measure => simp [Lib.intOf]
        · have bm : b < 4096 := hbn'
          have ML := Lib.hid (mask (b := b) (P := 64) 6 rfl (by decide) (by omega))
          have e5 : Go.bits .and .i64 (b : Int) 63 = ((b % 64 : Nat) : Int) := ML.out
          have WC := Lib.hid (WriteByte_k B B _ (((lt (b / 64)).toNat : Nat) : Int) wr HI.out (by rw [Lib.byteCells_length]; omega) (by have := HB.out.size; omega))
          have HQ : Hid (drain f 6 (b % 64) (acc' ++ [lt (b / 64)]) = drain 2 n8 b2 acc) := Lib.hid ((drain_to 6 64 (by decide) rfl rfl).symm.trans HD.out)
          clear HD
          have q1 : b / 64 < 64 := by omega
          go_wp2_with fail
          rw [lb]
          refine WC.out.mono ?_
          rintro e5' w5 ⟨rfl, h5, b5, k5⟩
          have HI5 : Hid (Lib.IsBuilderF BT 5 B B (Lib.byteCells (acc' ++ [lt (b / 64)])) w5) := Lib.hid (by rw [Lib.byteCells_append]; exact Or.inr h5)
          have HB5 := Lib.hid (HB.out.trans b5)
          clear h5 b5 k5 WC HI HB
          go_wp2_with fail
          go_roundw
          case rel => exact ⟨b % 64, 6, f, _, by first | rfl | go_num, rfl, by decide, by show b % 64 < 64; omega, by omega, by simp only [List.length_append, List.length_singleton]; omega, HQ, HI5, HB5⟩
          case measure => simp [Lib.intOf]
    · obtain rfl : k = len := by omega
      have dk : decide ((k : Int) < (k : Int)) = false := decide_eq_false (by omega)
      have TK : Hid (stS xs = (n, bits, acc)) := Lib.hid (by rw [← HS.out, List.take_of_length_le (by rw [HLN.out]; omega)])
      clear HS
      rcases hn with rfl | rfl | rfl
      · go_wp2_with fail
        go_loopg [] 3 (fun f wr2 => ∃ a : List UInt8, (a.length + f) % 4 ≤ f % 4 ∧ f ≤ 3 ∧ a.length + f ≤ 2 * k + 5 ∧ Hid (pad f a = sealL xs) ∧ Hid (Lib.IsBuilderF BT 5 B B (Lib.byteCells a) wr2) ∧ Hid (Below B w wr2))
        case atStart => exact ⟨acc, by omega, by omega, by (try simp only [List.length_append, List.length_singleton]); omega, Lib.hid (by unfold sealL; rw [TK.out]; unfold endS; simp), HI, HB⟩
        case round =>
          clear HI HB
          obtain ⟨a, hm, hf, hal2, HP, HI2, HB2⟩ := hrel
          have LC := Lib.hid (Tryd.Builder_Len_f B B _ _ HI2.out)
          rw [Lib.byteCells_length] at LC
          have tm : Int.tmod (a.length : Int) 4 = ((a.length % 4 : Nat) : Int) := by rw [Int.tmod_eq_emod_of_nonneg (by omega)]; omega
          by_cases h4 : a.length % 4 = 0
          · rw [h4] at tm
            have PA : Hid (a = sealL xs) := Lib.hid (by
              rw [← HP.out]
              cases gk with
              | zero => rfl
              | succ f => unfold pad; rw [if_pos h4])
            clear h4 hm
            go_wp2_with fail
            refine LC.out.mono ?_
            rintro e3 w3 ⟨rfl, hw3⟩
            subst w3
            go_wp2_with fail
            refine (Tryd.Builder_String_any_k B B a _ HI2.out (by have := HB2.out.size; omega)).mono ?_
            rintro e9 w9 ⟨rfl, _, b9, _⟩
            have H9 := Lib.hid (HB2.out.trans b9)
            go_wp2_with fail
            go_ret
            exact ⟨by rw [← PA.out]; rfl, by rw [hBw]; exact H9.out⟩
          · have tn : ((a.length % 4 : Nat) : Int) ≠ 0 := by omega
            obtain ⟨q, hq⟩ : ∃ q, a.length % 4 = q := ⟨_, rfl⟩
            rw [hq] at tm tn
            have tb : ((q : Int) != 0) = true := by simpa using tn
            obtain ⟨f, rfl⟩ : ∃ f, gk = f + 1 := ⟨gk - 1, by omega⟩
            have PA : Hid (pad f (a ++ [61]) = sealL xs) := Lib.hid (by rw [← HP.out]; conv => rhs; unfold pad
                                                                        rw [if_neg h4])
            have WC := Lib.hid (WriteByte_k B B _ 61 wr HI2.out (by rw [Lib.byteCells_length]; omega) (by have := HB2.out.size; omega))
            clear HP
            go_wp2_with fail
            refine LC.out.mono ?_
            rintro e3 w3 ⟨rfl, hw3⟩
            subst w3
            go_wp2_with fail
            refine WC.out.mono ?_
            rintro e5 w5 ⟨rfl, h5, b5, k5⟩
            have HI5 : Hid (Lib.IsBuilderF BT 5 B B (Lib.byteCells (a ++ [61])) w5) := Lib.hid (by rw [Lib.byteCells_append]; exact Or.inr h5)
            have HB5 := Lib.hid (HB2.out.trans b5)
            clear h5 b5 k5 WC
            go_wp2_with fail
            go_roundg f
            case rel => exact ⟨a ++ [61], by simp only [List.length_append, List.length_singleton]; omega, by omega, by simp only [List.length_append, List.length_singleton]; omega, PA, HI5, HB5⟩
            case measure => omega
      · have bl : bits < 4 := hbn
        obtain ⟨b1, hb1⟩ : ∃ b1, bits * 16 = b1 := ⟨_, rfl⟩
        have e1 : IntKind.i64.wrap ((bits : Int) * 16) = (b1 : Int) := by rw [show (bits : Int) * 16 = (b1 : Int) by omega]; exact IntWalk.i64_in _ (by omega)
        have b64 : b1 < 64 := by omega
        have b65 : (b1 : Int) < 64 := by omega
        have WC := Lib.hid (WriteByte_k B B _ (((lt b1).toNat : Nat) : Int) wr HI.out (by rw [Lib.byteCells_length]; omega) (by have := HB.out.size; omega))
        have TK2 : Hid (endS (stS xs) = acc ++ [lt b1]) := Lib.hid (by rw [TK.out]; unfold endS; simp only; rw [if_pos (by decide), ← hb1])
        clear hb1
        go_wp2_with fail
        rw [lb]
        refine WC.out.mono ?_
        rintro e5 w5 ⟨rfl, h5, b5, k5⟩
        have HI5 : Hid (Lib.IsBuilderF BT 5 B B (Lib.byteCells (acc ++ [lt b1])) w5) := Lib.hid (by rw [Lib.byteCells_append]; exact Or.inr h5)
        have HB5 := Lib.hid (HB.out.trans b5)
        clear h5 b5 k5 WC HI HB e1
        go_wp2_with fail
        go_loopg [] 3 (fun f wr2 => ∃ a : List UInt8, (a.length + f) % 4 ≤ f % 4 ∧ f ≤ 3 ∧ a.length + f ≤ 2 * k + 5 ∧ Hid (pad f a = sealL xs) ∧ Hid (Lib.IsBuilderF BT 5 B B (Lib.byteCells a) wr2) ∧ Hid (Below B w wr2))
        case atStart => exact ⟨acc ++ [lt b1], by omega, by omega, by (try simp only [List.length_append, List.length_singleton]); omega, Lib.hid (by unfold sealL; rw [TK2.out]), HI5, HB5⟩
        case round =>
          clear HI5 HB5
          obtain ⟨a, hm, hf, hal2, HP, HI2, HB2⟩ := hrel
          have LC := Lib.hid (Tryd.Builder_Len_f B B _ _ HI2.out)
          rw [Lib.byteCells_length] at LC
          have tm : Int.tmod (a.length : Int) 4 = ((a.length % 4 : Nat) : Int) := by rw [Int.tmod_eq_emod_of_nonneg (by omega)]; omega
          by_cases h4 : a.length % 4 = 0
          · rw [h4] at tm
            have PA : Hid (a = sealL xs) := Lib.hid (by
              rw [← HP.out]
              cases gk with
              | zero => rfl
              | succ f => unfold pad; rw [if_pos h4])
            clear h4 hm
            go_wp2_with fail
            refine LC.out.mono ?_
            rintro e3 w3 ⟨rfl, hw3⟩
            subst w3
            go_wp2_with fail
            refine (Tryd.Builder_String_any_k B B a _ HI2.out (by have := HB2.out.size; omega)).mono ?_
            rintro e9 w9 ⟨rfl, _, b9, _⟩
            have H9 := Lib.hid (HB2.out.trans b9)
            go_wp2_with fail
            go_ret
            exact ⟨by rw [← PA.out]; rfl, by rw [hBw]; exact H9.out⟩
          · have tn : ((a.length % 4 : Nat) : Int) ≠ 0 := by omega
            obtain ⟨q, hq⟩ : ∃ q, a.length % 4 = q := ⟨_, rfl⟩
            rw [hq] at tm tn
            have tb : ((q : Int) != 0) = true := by simpa using tn
            obtain ⟨f, rfl⟩ : ∃ f, gk = f + 1 := ⟨gk - 1, by omega⟩
            have PA : Hid (pad f (a ++ [61]) = sealL xs) := Lib.hid (by rw [← HP.out]; conv => rhs; unfold pad
                                                                        rw [if_neg h4])
            have WC := Lib.hid (WriteByte_k B B _ 61 wr HI2.out (by rw [Lib.byteCells_length]; omega) (by have := HB2.out.size; omega))
            clear HP
            go_wp2_with fail
            refine LC.out.mono ?_
            rintro e3 w3 ⟨rfl, hw3⟩
            subst w3
            go_wp2_with fail
            refine WC.out.mono ?_
            rintro e5 w5 ⟨rfl, h5, b5, k5⟩
            have HI5 : Hid (Lib.IsBuilderF BT 5 B B (Lib.byteCells (a ++ [61])) w5) := Lib.hid (by rw [Lib.byteCells_append]; exact Or.inr h5)
            have HB5 := Lib.hid (HB2.out.trans b5)
            clear h5 b5 k5 WC
            go_wp2_with fail
            go_roundg f
            case rel => exact ⟨a ++ [61], by simp only [List.length_append, List.length_singleton]; omega, by omega, by simp only [List.length_append, List.length_singleton]; omega, PA, HI5, HB5⟩
            case measure => omega
      · have bl : bits < 16 := hbn
        obtain ⟨b1, hb1⟩ : ∃ b1, bits * 4 = b1 := ⟨_, rfl⟩
        have e1 : IntKind.i64.wrap ((bits : Int) * 4) = (b1 : Int) := by rw [show (bits : Int) * 4 = (b1 : Int) by omega]; exact IntWalk.i64_in _ (by omega)
        have b64 : b1 < 64 := by omega
        have b65 : (b1 : Int) < 64 := by omega
        have WC := Lib.hid (WriteByte_k B B _ (((lt b1).toNat : Nat) : Int) wr HI.out (by rw [Lib.byteCells_length]; omega) (by have := HB.out.size; omega))
        have TK2 : Hid (endS (stS xs) = acc ++ [lt b1]) := Lib.hid (by rw [TK.out]; unfold endS; simp only; rw [if_pos (by decide), ← hb1])
        clear hb1
        go_wp2_with fail
        rw [lb]
        refine WC.out.mono ?_
        rintro e5 w5 ⟨rfl, h5, b5, k5⟩
        have HI5 : Hid (Lib.IsBuilderF BT 5 B B (Lib.byteCells (acc ++ [lt b1])) w5) := Lib.hid (by rw [Lib.byteCells_append]; exact Or.inr h5)
        have HB5 := Lib.hid (HB.out.trans b5)
        clear h5 b5 k5 WC HI HB e1
        go_wp2_with fail
        go_loopg [] 3 (fun f wr2 => ∃ a : List UInt8, (a.length + f) % 4 ≤ f % 4 ∧ f ≤ 3 ∧ a.length + f ≤ 2 * k + 5 ∧ Hid (pad f a = sealL xs) ∧ Hid (Lib.IsBuilderF BT 5 B B (Lib.byteCells a) wr2) ∧ Hid (Below B w wr2))
        case atStart => exact ⟨acc ++ [lt b1], by omega, by omega, by (try simp only [List.length_append, List.length_singleton]); omega, Lib.hid (by unfold sealL; rw [TK2.out]), HI5, HB5⟩
        case round =>
          clear HI5 HB5
          obtain ⟨a, hm, hf, hal2, HP, HI2, HB2⟩ := hrel
          have LC := Lib.hid (Tryd.Builder_Len_f B B _ _ HI2.out)
          rw [Lib.byteCells_length] at LC
          have tm : Int.tmod (a.length : Int) 4 = ((a.length % 4 : Nat) : Int) := by rw [Int.tmod_eq_emod_of_nonneg (by omega)]; omega
          by_cases h4 : a.length % 4 = 0
          · rw [h4] at tm
            have PA : Hid (a = sealL xs) := Lib.hid (by
              rw [← HP.out]
              cases gk with
              | zero => rfl
              | succ f => unfold pad; rw [if_pos h4])
            clear h4 hm
            go_wp2_with fail
            refine LC.out.mono ?_
            rintro e3 w3 ⟨rfl, hw3⟩
            subst w3
            go_wp2_with fail
            refine (Tryd.Builder_String_any_k B B a _ HI2.out (by have := HB2.out.size; omega)).mono ?_
            rintro e9 w9 ⟨rfl, _, b9, _⟩
            have H9 := Lib.hid (HB2.out.trans b9)
            go_wp2_with fail
            go_ret
            exact ⟨by rw [← PA.out]; rfl, by rw [hBw]; exact H9.out⟩
          · have tn : ((a.length % 4 : Nat) : Int) ≠ 0 := by omega
            obtain ⟨q, hq⟩ : ∃ q, a.length % 4 = q := ⟨_, rfl⟩
            rw [hq] at tm tn
            have tb : ((q : Int) != 0) = true := by simpa using tn
            obtain ⟨f, rfl⟩ : ∃ f, gk = f + 1 := ⟨gk - 1, by omega⟩
            have PA : Hid (pad f (a ++ [61]) = sealL xs) := Lib.hid (by rw [← HP.out]; conv => rhs; unfold pad
                                                                        rw [if_neg h4])
            have WC := Lib.hid (WriteByte_k B B _ 61 wr HI2.out (by rw [Lib.byteCells_length]; omega) (by have := HB2.out.size; omega))
            clear HP
            go_wp2_with fail
            refine LC.out.mono ?_
            rintro e3 w3 ⟨rfl, hw3⟩
            subst w3
            go_wp2_with fail
            refine WC.out.mono ?_
            rintro e5 w5 ⟨rfl, h5, b5, k5⟩
            have HI5 : Hid (Lib.IsBuilderF BT 5 B B (Lib.byteCells (a ++ [61])) w5) := Lib.hid (by rw [Lib.byteCells_append]; exact Or.inr h5)
            have HB5 := Lib.hid (HB2.out.trans b5)
            clear h5 b5 k5 WC
            go_wp2_with fail
            go_roundg f
            case rel => exact ⟨a ++ [61], by simp only [List.length_append, List.length_singleton]; omega, by omega, by simp only [List.length_append, List.length_singleton]; omega, PA, HI5, HB5⟩
            case measure => omega
end Go.Proofs.YtdekdcleeignoaaDoor.Wd
