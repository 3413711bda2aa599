/-
  The walks of package check: halves, Write, Value, Len, Of; no condition but those told.
-/
import Derived.Test.YtdekdcleeignoaaU2
import Derived.Test.YtdekdcleeignoaaUQ
import Derived.Test.YtdekdcleeignoaaChk
import Derived.Test.YtdekdcleeignoaaRows
import Derived.Lib.SlBytesConst
set_option linter.unusedVariables false
set_option linter.unusedSimpArgs false
namespace Go.Proofs.Ytdekdcleeignoaa.Chk
open Go.RowKit Go.Proofs.Ytdekdcleeignoaa Go.Proofs.YtdekdcleeignoaaW.PrintWords Go.Proofs.YtdekdcleeignoaaW.PrintLast Go.Proofs.YtdekdcleeignoaaW.PrintMore

/-- A word as a value. -/
def u32 (x : W) : Value := .int .u32 (x.toNat : Int)
theorem lt32 (x : W) : (x.toNat : Int) < 4294967296 := by have := x.isLt; omega
theorem wrap_u32 (n : Int) : IntKind.u32.wrap n = n % 4294967296 := rfl
theorem ofInt_toNat (x : W) : BitVec.ofInt 32 (x.toNat : Int) = x := by
  apply BitVec.eq_of_toNat_eq
  rw [BitVec.toNat_ofInt]
  have := x.isLt
  omega
theorem xor_w (x y : W) : Go.bits .xor .u32 (x.toNat : Int) (y.toNat : Int) = ((x ^^^ y).toNat : Int) := by
  show IntKind.u32.wrap ((BitVec.ofInt 32 (x.toNat : Int) ^^^ BitVec.ofInt 32 (y.toNat : Int)).toNat : Int) = _
  rw [ofInt_toNat, ofInt_toNat, wrap_u32, Int.emod_eq_of_lt (by omega) (lt32 _)]
theorem and_w (x y : W) : Go.bits .and .u32 (x.toNat : Int) (y.toNat : Int) = ((x &&& y).toNat : Int) := by
  show IntKind.u32.wrap ((BitVec.ofInt 32 (x.toNat : Int) &&& BitVec.ofInt 32 (y.toNat : Int)).toNat : Int) = _
  rw [ofInt_toNat, ofInt_toNat, wrap_u32, Int.emod_eq_of_lt (by omega) (lt32 _)]
theorem shr_w (x : W) (k : Nat) : ((x >>> k).toNat : Int) = (x.toNat : Int) / 2 ^ k := by
  rw [BitVec.toNat_ushiftRight, Nat.shiftRight_eq_div_pow]; rfl
theorem and_one (x : W) : Go.bits .and .u32 (x.toNat : Int) 1 = (if x.getLsbD 0 then 1 else 0) := by
  have h := and_w x 1#32
  have e : ((x &&& 1#32).toNat : Int) = (if x.getLsbD 0 then 1 else 0) := by
    rw [BitVec.toNat_and, show (1#32).toNat = 1 from rfl, Nat.and_one_is_mod, BitVec.getLsbD, Nat.testBit_zero]
    by_cases h : x.toNat % 2 = 1
    · simp [h]
    · simp [h]; omega
  rw [e] at h
  exact h
theorem step_w (x : W) : Go.bits .xor .u32 ((x.toNat : Int) / 2) (2197175160 * Go.bits .and .u32 (x.toNat : Int) 1 % 4294967296) = ((T x).toNat : Int) := by
  have a3 := (shr_w x 1).symm
  rw [show (2 : Int) ^ 1 = 2 from rfl] at a3
  have a2 : 2197175160 * Go.bits .and .u32 (x.toNat : Int) 1 % 4294967296 = (((if x.getLsbD 0 then P else 0#32 : W)).toNat : Int) := by
    rw [and_one]
    by_cases h : x.getLsbD 0 = true
    · rw [if_pos h, if_pos h]; rfl
    · rw [if_neg h, if_neg h]; rfl
  rw [a2, a3, xor_w]; rfl
theorem Tn_succ (j : Nat) (x : W) : Tn (j + 1) x = T (Tn j x) := by rw [Tn_add j 1]; rfl
/-- The table of half bytes. -/
def hb (i : Nat) : W := Tn 4 (BitVec.ofNat 32 i)
def hf (i : Nat) : Int := ((hb i).toNat : Int)
theorem hv0 : vals .u32 (fillTo hf 16 0) = #[.int .u32 0, .int .u32 0, .int .u32 0, .int .u32 0, .int .u32 0, .int .u32 0, .int .u32 0, .int .u32 0, .int .u32 0, .int .u32 0, .int .u32 0, .int .u32 0, .int .u32 0, .int .u32 0, .int .u32 0, .int .u32 0] := by kernel_rfl
theorem hv16 : vals .u32 (fillTo hf 16 16) = #[.int .u32 0, .int .u32 274646895, .int .u32 549293790, .int .u32 820201905, .int .u32 1098587580, .int .u32 1361435347, .int .u32 1640403810, .int .u32 1905808397, .int .u32 2197175160, .int .u32 2460548119, .int .u32 2722870694, .int .u32 2987750089, .int .u32 3280807620, .int .u32 3553878443, .int .u32 3811616794, .int .u32 4084100981] := by kernel_rfl
theorem tab_get (i : Nat) (h : i < 16) : (#[.int .u32 0, .int .u32 274646895, .int .u32 549293790, .int .u32 820201905, .int .u32 1098587580, .int .u32 1361435347, .int .u32 1640403810, .int .u32 1905808397, .int .u32 2197175160, .int .u32 2460548119, .int .u32 2722870694, .int .u32 2987750089, .int .u32 3280807620, .int .u32 3553878443, .int .u32 3811616794, .int .u32 4084100981] : Array Value)[i]? = some (.int .u32 (hf i)) := by
  rw [← hv16, vals_get (by rw [fillTo_len]; exact h), fillTo_all' _ _ _ h]
set_option maxHeartbeats 4000000 in
set_option maxRecDepth 100000 in
theorem halves_calls (w : World) : Calls Try.prog 27 #[] w fun e w' => e = .returned (.agg (vals .u32 (fillTo hf 16 16))) ∧ Below w.heap.size w w' := by
  go_enter Try.func27, Try.ntmps27
  go_wp2
  have h0 := Lib.hid (Blk.new w 64 (vals .u32 (fillTo hf 16 0)))
  go_loopw [4] (fun i wr => ∃ k : Nat, k ≤ 16 ∧ i = .int .i64 k ∧ Hid (Blk wr w.heap.size 64 (vals .u32 (fillTo hf 16 0))) ∧ Hid (Blk wr (w.heap.size + 1) 64 (vals .u32 (fillTo hf 16 k))) ∧ Hid (Below w.heap.size w wr)) (fun i _ => 16 - (intOf i).toNat)
  case atStart => exact ⟨0, by omega, rfl, (Blk.new w 64 (vals .u32 (fillTo hf 16 0))).alloc _, Blk.new_at 64 (vals .u32 (fillTo hf 16 0)) (by simp), (((Below.refl _ _).alloc (Nat.le_refl _) _).alloc (by simp) _ : Below _ _ _)⟩
  case round =>
    clear h0
    obtain ⟨k, hk, rfl, h0, h1, hb⟩ := hrel
    by_cases hlt : k < 16
    · have hk0 : Value.int .u32 (k : Int) = Value.int .u32 ((Tn 0 (BitVec.ofNat 32 k)).toNat : Int) := by
        show _ = Value.int .u32 ((BitVec.ofNat 32 k).toNat : Int)
        rw [BitVec.toNat_ofNat, Nat.mod_eq_of_lt (by omega)]
      go_wp2
      go_loopw [9, 3] (fun m c wq => ∃ j : Nat, j ≤ 4 ∧ m = .int .i64 j ∧ c = .int .u32 ((Tn j (BitVec.ofNat 32 k)).toNat : Int) ∧ wq = wr) (fun m _ _ => 4 - (intOf m).toNat)
      case atStart => exact ⟨0, by omega, rfl, hk0, rfl⟩
      case round =>
        obtain ⟨j, hj, rfl, rfl, rfl⟩ := hrel
        by_cases hj4 : j < 4
        · go_wp2
          refine ⟨⟨j + 1, by omega, by push_cast; rfl, ?_, trivial⟩, by simp [intOf]; omega⟩
          rw [step_w, Tn_succ]
        · obtain rfl : j = 4 := by omega
          have d1 := h1.out.cell (vals_get (by rw [fillTo_len]; exact hlt))
          rw [fillTo_at] at d1
          have f1 := h1.out.free k
          go_wp2
          refine ⟨⟨k + 1, by omega, by push_cast; rfl, h0.out.other (a := ⟨w.heap.size + 1, k, none⟩) (by simp) _, ?_, hb.out.setCell (p := ⟨w.heap.size + 1, k, none⟩) (by simp) _⟩, by simp [intOf]; omega⟩
          rw [← fillTo_set]
          exact h1.out.seti k (hf k)
    · obtain rfl : k = 16 := by omega
      rw [hv0] at h0
      rw [hv16] at h1
      go_wp2_with (first | (refine wpList_load_row rfl 64 _ rfl (w.heap.size + 1) rfl 64 _ (0, 0) _ (h1.out : Blk wr (w.heap.size + 1) 64 #[.int .u32 0, .int .u32 274646895, .int .u32 549293790, .int .u32 820201905, .int .u32 1098587580, .int .u32 1361435347, .int .u32 1640403810, .int .u32 1905808397, .int .u32 2197175160, .int .u32 2460548119, .int .u32 2722870694, .int .u32 2987750089, .int .u32 3280807620, .int .u32 3553878443, .int .u32 3811616794, .int .u32 4084100981]) Try.underlying64 rfl (by kernel_rfl) ?_) | (refine wpList_store_row rfl 64 _ _ rfl w.heap.size #[.int .u32 0, .int .u32 274646895, .int .u32 549293790, .int .u32 820201905, .int .u32 1098587580, .int .u32 1361435347, .int .u32 1640403810, .int .u32 1905808397, .int .u32 2197175160, .int .u32 2460548119, .int .u32 2722870694, .int .u32 2987750089, .int .u32 3280807620, .int .u32 3553878443, .int .u32 3811616794, .int .u32 4084100981] rfl rfl 64 _ (h0.out : Blk wr w.heap.size 64 #[.int .u32 0, .int .u32 0, .int .u32 0, .int .u32 0, .int .u32 0, .int .u32 0, .int .u32 0, .int .u32 0, .int .u32 0, .int .u32 0, .int .u32 0, .int .u32 0, .int .u32 0, .int .u32 0, .int .u32 0, .int .u32 0]) (by kernel_rfl) rfl (by kernel_rfl) ?_))
      have hb2 := Blk.row h0.out #[.int .u32 0, .int .u32 274646895, .int .u32 549293790, .int .u32 820201905, .int .u32 1098587580, .int .u32 1361435347, .int .u32 1640403810, .int .u32 1905808397, .int .u32 2197175160, .int .u32 2460548119, .int .u32 2722870694, .int .u32 2987750089, .int .u32 3280807620, .int .u32 3553878443, .int .u32 3811616794, .int .u32 4084100981]
      refine bodyPost_ret (results_cell_row rfl _ _ w.heap.size 64 _ (0, 0) _ rfl hb2 Try.underlying64 rfl (by kernel_rfl)) rfl ⟨by rw [← hv16], below_row hb.out (Nat.le_refl _) _⟩
theorem low_w (y : W) : Go.bits .and .u32 (y.toNat : Int) 15 = ((y &&& 15#32).toNat : Int) ∧ (y &&& 15#32).toNat < 16 ∧ hf (y &&& 15#32).toNat = ((Tn 4 (y &&& 15#32)).toNat : Int) := by
  refine ⟨and_w y 15#32, ?_, ?_⟩
  · rw [BitVec.toNat_and]
    exact Nat.lt_of_le_of_lt Nat.and_le_right (by decide)
  · unfold hf hb
    rw [BitVec.ofNat_toNat, BitVec.setWidth_eq]
theorem round_w (cc : W) (x : Nat) (hx : x < 256) : ∃ y i1 z i2 : Nat, Go.bits .xor .u32 (cc.toNat : Int) (x : Int) = (y : Int) ∧ Go.bits .and .u32 (y : Int) 15 = (i1 : Int) ∧ i1 < 16 ∧ Go.bits .xor .u32 (hf i1) ((y : Int) / 16) = (z : Int) ∧ Go.bits .and .u32 (z : Int) 15 = (i2 : Int) ∧ i2 < 16 ∧ Go.bits .xor .u32 (hf i2) ((z : Int) / 16) = ((Tn 8 (cc ^^^ BitVec.ofNat 32 x)).toNat : Int) := by
  have e0 : (x : Int) = ((BitVec.ofNat 32 x).toNat : Int) := by rw [BitVec.toNat_ofNat, Nat.mod_eq_of_lt (by omega)]
  obtain ⟨a1, a2, a3⟩ := low_w (cc ^^^ BitVec.ofNat 32 x)
  generalize hy : cc ^^^ BitVec.ofNat 32 x = y at *
  have s1 := shr_w y 4
  obtain ⟨b1, b2, b3⟩ := low_w (Tn 4 (y &&& 15#32) ^^^ (y >>> 4))
  have s2 := shr_w (Tn 4 (y &&& 15#32) ^^^ (y >>> 4)) 4
  have ht := two_halves y
  refine ⟨y.toNat, (y &&& 15#32).toNat, (Tn 4 (y &&& 15#32) ^^^ (y >>> 4)).toNat, _, by rw [e0, xor_w, hy], a1, a2, ?_, b1, b2, ?_⟩
  · rw [a3, show (y.toNat : Int) / (16 : Int) = ((y >>> 4).toNat : Int) from s1.symm, xor_w]
  · rw [b3, show ((Tn 4 (y &&& 15#32) ^^^ (y >>> 4)).toNat : Int) / (16 : Int) = (((Tn 4 (y &&& 15#32) ^^^ (y >>> 4)) >>> 4).toNat : Int) from s2.symm, xor_w, ht]
theorem not_w (x : W) : Go.bits .xor .u32 IntKind.u32.max (x.toNat : Int) = ((~~~x).toNat : Int) := by
  have h := xor_w (BitVec.allOnes 32) x
  rw [BitVec.allOnes_xor] at h
  exact h
/-- A sum that goes on. -/
def Sum (w : World) (g : Nat) (c : W) (n : Int) : Prop := Blk w g 57 #[.int .u32 (c.toNat : Int), .int .i64 n]
theorem halves_lit (w : World) : Calls Try.prog 27 #[] w fun e w' => e = .returned (.agg #[.int .u32 0, .int .u32 274646895, .int .u32 549293790, .int .u32 820201905, .int .u32 1098587580, .int .u32 1361435347, .int .u32 1640403810, .int .u32 1905808397, .int .u32 2197175160, .int .u32 2460548119, .int .u32 2722870694, .int .u32 2987750089, .int .u32 3280807620, .int .u32 3553878443, .int .u32 3811616794, .int .u32 4084100981]) ∧ Below w.heap.size w w' := by
  have := halves_calls w
  rwa [hv16] at this
theorem Value_some {w : World} {g : Nat} {c : W} {n : Int} (h : Sum w g c n) : Calls Try.prog 25 #[.pointer (some ⟨g, 0, none⟩)] w fun e w' => e = .returned (.int .u32 (c.toNat : Int)) ∧ w' = w := by
  have d0 := h.cell (i := 0) rfl
  go_enter Try.func25, Try.ntmps25
  go_wp2
  go_ret
  exact ⟨rfl, rfl⟩
theorem Value_none (w : World) : Calls Try.prog 25 #[.pointer none] w fun e w' => e = .returned (.int .u32 0) ∧ w' = w := by
  go_enter Try.func25, Try.ntmps25
  go_wp2
  go_ret
  exact ⟨rfl, rfl⟩
theorem Write_none (s : Value) (w : World) : Calls Try.prog 24 #[.pointer none, s] w fun e w' => e = .returned (.tuple #[]) ∧ w' = w := by
  go_enter Try.func24, Try.ntmps24
  go_wp2
  exact bodyPost_ret (results_none rfl _ _ _) rfl ⟨rfl, rfl⟩
/-- Bytes as whole numbers. -/
def ints (l : List Nat) : List Int := l.map (fun x : Nat => (x : Int))
theorem ints_len (l : List Nat) : (ints l).length = l.length := by simp [ints]
set_option maxHeartbeats 4000000 in
set_option maxRecDepth 100000 in
theorem Write_some (l : List Nat) (hl : ∀ x ∈ l, x < 256) (len : Nat) (hlen : l.length = len) {w : World} {g : Nat} {c : W} {n : Int} (h : Sum w g c n) (A : Option Addr) (cap : Nat) (hr : (Kd.int .u8).C w A (ints l).length (ints l)) (hA : 0 < len → ∀ a, A = some a → a.block ≠ g) (hn : 0 ≤ n ∧ n + len < 9223372036854775808) :
    Calls Try.prog 24 #[.pointer (some ⟨g, 0, none⟩), .slice A len cap] w fun e w' => e = .returned (.tuple #[]) ∧ Sum w' g (~~~ (F (~~~ c) l)) (n + len) ∧ Only (fun k => k = g) w w' := by
  have hlt := h.lt
  go_enter Try.func24, Try.ntmps24
  go_wp2_with (first
    | (go_at_call 27; refine (halves_lit _).mono ?_; rintro e w1 ⟨rfl, hb1⟩; have hsz := hb1.size)
    | (refine wpList_store_row rfl 64 _ _ rfl w1.heap.size #[.int .u32 0, .int .u32 274646895, .int .u32 549293790, .int .u32 820201905, .int .u32 1098587580, .int .u32 1361435347, .int .u32 1640403810, .int .u32 1905808397, .int .u32 2197175160, .int .u32 2460548119, .int .u32 2722870694, .int .u32 2987750089, .int .u32 3280807620, .int .u32 3553878443, .int .u32 3811616794, .int .u32 4084100981] rfl rfl 64 _ (Blk.new w1 64 #[.int .u32 0, .int .u32 0, .int .u32 0, .int .u32 0, .int .u32 0, .int .u32 0, .int .u32 0, .int .u32 0, .int .u32 0, .int .u32 0, .int .u32 0, .int .u32 0, .int .u32 0, .int .u32 0, .int .u32 0, .int .u32 0]) (by kernel_rfl) rfl (by kernel_rfl) ?_
       have HT := Lib.hid (Blk.row (Blk.new w1 64 #[.int .u32 0, .int .u32 0, .int .u32 0, .int .u32 0, .int .u32 0, .int .u32 0, .int .u32 0, .int .u32 0, .int .u32 0, .int .u32 0, .int .u32 0, .int .u32 0, .int .u32 0, .int .u32 0, .int .u32 0, .int .u32 0]) #[.int .u32 0, .int .u32 274646895, .int .u32 549293790, .int .u32 820201905, .int .u32 1098587580, .int .u32 1361435347, .int .u32 1640403810, .int .u32 1905808397, .int .u32 2197175160, .int .u32 2460548119, .int .u32 2722870694, .int .u32 2987750089, .int .u32 3280807620, .int .u32 3553878443, .int .u32 3811616794, .int .u32 4084100981])
       have HS := Lib.hid (Blk.row_other (k := w1.heap.size) (Blk.alloc (Blk.below h hb1 hlt) (.cells #[.int .u32 0, .int .u32 0, .int .u32 0, .int .u32 0, .int .u32 0, .int .u32 0, .int .u32 0, .int .u32 0, .int .u32 0, .int .u32 0, .int .u32 0, .int .u32 0, .int .u32 0, .int .u32 0, .int .u32 0, .int .u32 0] 64)) (by omega) #[.int .u32 0, .int .u32 274646895, .int .u32 549293790, .int .u32 820201905, .int .u32 1098587580, .int .u32 1361435347, .int .u32 1640403810, .int .u32 1905808397, .int .u32 2197175160, .int .u32 2460548119, .int .u32 2722870694, .int .u32 2987750089, .int .u32 3280807620, .int .u32 3553878443, .int .u32 3811616794, .int .u32 4084100981])
       have HO := Lib.hid (Only.row (g := w1.heap.size) (Only.alloc (Only.of_below (S := fun k => k = g) hb1) (.cells #[.int .u32 0, .int .u32 0, .int .u32 0, .int .u32 0, .int .u32 0, .int .u32 0, .int .u32 0, .int .u32 0, .int .u32 0, .int .u32 0, .int .u32 0, .int .u32 0, .int .u32 0, .int .u32 0, .int .u32 0, .int .u32 0] 64)) (.inr hsz) #[.int .u32 0, .int .u32 274646895, .int .u32 549293790, .int .u32 820201905, .int .u32 1098587580, .int .u32 1361435347, .int .u32 1640403810, .int .u32 1905808397, .int .u32 2197175160, .int .u32 2460548119, .int .u32 2722870694, .int .u32 2987750089, .int .u32 3280807620, .int .u32 3553878443, .int .u32 3811616794, .int .u32 4084100981])
       generalize World.setRow (w1.alloc (.cells #[.int .u32 0, .int .u32 0, .int .u32 0, .int .u32 0, .int .u32 0, .int .u32 0, .int .u32 0, .int .u32 0, .int .u32 0, .int .u32 0, .int .u32 0, .int .u32 0, .int .u32 0, .int .u32 0, .int .u32 0, .int .u32 0] 64)) w1.heap.size #[.int .u32 0, .int .u32 274646895, .int .u32 549293790, .int .u32 820201905, .int .u32 1098587580, .int .u32 1361435347, .int .u32 1640403810, .int .u32 1905808397, .int .u32 2197175160, .int .u32 2460548119, .int .u32 2722870694, .int .u32 2987750089, .int .u32 3280807620, .int .u32 3553878443, .int .u32 3811616794, .int .u32 4084100981] = w2 at HT HS HO ⊢
       generalize w1.heap.size = G at HT hsz ⊢
       clear hb1 h
       have c0 := HS.out.cell (i := 0) rfl
       have c1 := HS.out.cell (i := 1) rfl
       have f0 := HS.out.free))
  go_loopw [5, 18] (fun v i wr => ∃ j : Nat, j ≤ len ∧ i = .int .i64 j ∧ v = .int .u32 ((F (~~~ c) (l.take j)).toNat : Int) ∧ wr = w2) (fun _ i _ => len - (intOf i).toNat)
  case atStart =>
    refine ⟨0, by omega, rfl, ?_, rfl⟩
    rw [not_w]; rfl
  case round =>
    obtain ⟨j, hj, rfl, rfl, rfl⟩ := hrel
    by_cases hjl : j < len
    · have hx : j < l.length := by omega
      have hF : F (~~~c) (l.take (j + 1)) = Tn 8 (F (~~~c) (l.take j) ^^^ BitVec.ofNat 32 l[j]) := by
        rw [List.take_succ_eq_append_getElem hx, F_snoc _ _ _ (hl _ (List.getElem_mem hx))]
      have hxb := hl _ (List.getElem_mem hx)
      obtain ⟨ad, rfl, d2⟩ := cell_C hr (i := j) (by rw [ints_len]; omega)
      have hei : (ints l)[j]'(by rw [ints_len]; omega) = (l[j] : Int) := by simp [ints]
      rw [hei] at d2
      have hne := hA (by omega) ad rfl
      have hadl : ad.block < w.heap.size := by rw [← add_block ad j]; exact World.block_lt_of_cell? w _ d2
      rw [← World.cell?_of_block (w := w) (w' := wr) (by rw [add_block]; exact HO.out.block ad.block hadl hne)] at d2
      have HF := Lib.hid hF
      clear hF hei
      obtain ⟨y, i1, z, i2, E1, E2, L1, E3, E4, L2, E5⟩ := round_w (F (~~~c) (l.take j)) l[j] hxb
      have c3 := HT.out.cell (i := i1) (v := .int .u32 (hf i1)) (tab_get i1 L1)
      have c4 := HT.out.cell (i := i2) (v := .int .u32 (hf i2)) (tab_get i2 L2)
      rw [← HF.out] at E5
      clear HF
      generalize F (~~~c) (l.take j) = cc at *
      generalize l[j] = x at *
      generalize hf i1 = h1 at *
      generalize hf i2 = h2 at *
      go_wp2
      refine ⟨⟨j + 1, by omega, by push_cast; rfl, ?_, trivial⟩, by simp [intOf]; omega⟩
      rfl
    · obtain rfl : j = len := by omega
      go_wp2
      refine bodyPost_end (results_none rfl _ _ _) rfl ⟨rfl, ?_, ?_⟩
      · rw [List.take_of_length_le (by omega), not_w]
        exact (HS.out.set 0 _).set 1 _
      · exact (HO.out.set (p := ⟨g, 0, none⟩) (.inl rfl) _).set (p := ⟨g, 1, none⟩) (.inl rfl) _
theorem max63 : maxLen ≤ 9223372036854775807 := by decide
set_option maxHeartbeats 4000000 in
set_option maxRecDepth 100000 in
theorem Of_calls (l : List Nat) (hl : ∀ x ∈ l, x < 256) (len : Nat) (hlen : l.length = len) (hm : len ≤ maxLen) (w : World) (A : Option Addr) (cap : Nat) (hr : (Kd.int .u8).C w A (ints l).length (ints l)) :
    Calls Try.prog 18 #[.slice A len cap] w fun e w' => e = .returned (.int .u32 ((crc l).toNat : Int)) ∧ Below w.heap.size w w' := by
  go_enter Try.func18, Try.ntmps18
  go_wp2_with (first
    | (go_at_call 24
       refine (Write_some l hl len hlen (c := 0#32) (n := 0) (Blk.new w _ _) A cap (Kd.C_alloc hr _) (fun h0 a ha => ?_) ⟨by omega, by have := max63; omega⟩).mono ?_
       · obtain ⟨ad, e, d⟩ := cell_C hr (i := 0) (by rw [ints_len]; omega)
         rw [e] at ha
         cases ha
         have := World.block_lt_of_cell? w _ d
         rw [add_block] at this
         omega
       rintro e w1 ⟨rfl, hs, ho⟩
       rw [show ~~~(F (~~~0#32) l) = crc l from rfl] at hs)
    | (go_at_call 25
       refine (Value_some hs).mono ?_
       rintro e w2 ⟨rfl, rfl⟩))
  go_ret
  refine ⟨rfl, ?_⟩
  exact ((Below.refl w.heap.size w).alloc (Nat.le_refl _) _).trans (ho.below (B := w.heap.size) (by simp) (fun i hi => by rw [hi]; exact Nat.le_refl _))
/-- What check.Of answers. -/
def fOf (l : List Int) : Option Int := if (∀ x ∈ l, 0 ≤ x ∧ x < 256) ∧ l.length ≤ maxLen then some ((crc (l.map Int.toNat)).toNat : Int) else none
theorem ints_of (l : List Int) (h : ∀ x ∈ l, 0 ≤ x ∧ x < 256) : ints (l.map Int.toNat) = l := by
  induction l with
  | nil => rfl
  | cons x l ih =>
    have := ih (fun y hy => h y (by simp [hy]))
    unfold ints at *
    rw [List.map_cons, List.map_cons, this, Int.toNat_of_nonneg (h x (by simp)).1]
theorem fOf_calls (A : Option Addr) (c : Nat) (l : List Int) (r : Int) (w : World) (hr : (Kd.int .u8).C w A l.length l) (hc : l.length ≤ c) (h : fOf l = some r) :
    Calls Try.prog 18 #[.slice A l.length c] w fun e w' => e = .returned (.int .u32 r) ∧ Below w.heap.size w w' := by
  unfold fOf at h
  split at h
  · rename_i hh
    obtain rfl := Option.some.inj h
    have e := ints_of l hh.1
    exact Of_calls (l.map Int.toNat) (by
      intro x hx
      obtain ⟨y, hy, rfl⟩ := List.mem_map.1 hx
      have := hh.1 y hy
      omega) l.length (by simp) hh.2 w A c (by rw [e]; exact hr)
  · cases h
end Go.Proofs.Ytdekdcleeignoaa.Chk
