/-
  Packets: the number of bytes, told backwards; walks. No condition but those told.
-/
import Derived.Test.YtdekdcleeignoaaU7
import Derived.Test.YtdekdcleeignoaaPkp
import Derived.Test.YtdekdcleeignoaaChecked
import Derived.RangeFuncBox
import Derived.RangeFuncBound
import Derived.RangeFuncCalls
import Derived.RangeFuncLeaves
import Derived.RangeFuncWrites
import Derived.Shelf.Abstract
import Derived.WalkKit
import Derived.OwnWalkIn
import Derived.TacticsInMore
import Derived.LoopNIn
import Derived.LoopIn
set_option linter.unusedVariables false
set_option linter.unusedSimpArgs false
namespace Go.Proofs.Ytdekdcleeignoaa.Pk
open Go.RowKit Go.Shelf Go.Proofs.Ytdekdcleeignoaa Go.Proofs.YtdekdcleeignoaaW.PrintWords

attribute [local go_sem] Oper.semAt_some
/-- What has come when k rounds are over. -/
def upto {α : Type} (f : Nat → α) (k : Nat) : List α := (List.range k).map f
theorem upto_succ {α : Type} (f : Nat → α) (k : Nat) : upto f (k + 1) = upto f k ++ [f k] := by simp [upto, List.range_succ]
theorem upto_length {α : Type} (f : Nat → α) (k : Nat) : (upto f k).length = k := by simp [upto]
/-- The last byte first, each with its place. -/
def bk (zs : List Int) (len j : Nat) : Nat × Int := (len - 1 - j, zs[len - 1 - j]?.getD 0)
/-- What lay below stays, and block Bs. -/
def KeptB (n₀ Bs : Nat) (A B : World) : Prop := Below n₀ A B ∧ (Bs < A.heap.size → B.heap[Bs]? = A.heap[Bs]?)
theorem KeptB.refl (n₀ Bs : Nat) (A : World) : KeptB n₀ Bs A A := ⟨Below.refl _ _, fun _ => rfl⟩
theorem KeptB.trans {n₀ Bs : Nat} {A B C : World} (h : KeptB n₀ Bs A B) (k : KeptB n₀ Bs B C) : KeptB n₀ Bs A C :=
  ⟨h.1.trans k.1, fun hl => (k.2 (Nat.lt_of_lt_of_le hl h.1.size)).trans (h.2 hl)⟩
theorem KeptB.cell {n₀ Bs : Nat} {A B : World} (h : KeptB n₀ Bs A B) {v : Value} (hc : A.cell? ⟨Bs, 0, none⟩ = some v) : B.cell? ⟨Bs, 0, none⟩ = some v := by
  have hl := World.block_lt_of_cell? _ _ hc
  rw [World.cell?_of_block (w := A) (h.2 hl), hc]
set_option maxRecDepth 100000 in
set_option maxHeartbeats 2000000 in
theorem back1_in (F : Fence) (n : Nat) (h8 : F.fn 28) (hro : F.round = none) (hn : 1 ≤ n) (l Bs n₀ b off len cap : Nat) (zs : List Int) (hreach : len ≤ 140737488351232) (hb : b < n₀) (J Jx : List (Nat × Int) → World → Prop)
    (hY : ∀ pre x W, J pre W → pre.length < len → YieldAt F (n - 1) Try.prog l #[.int .i64 (x.1 : Int), .int .u8 x.2] W fun e W' =>
      (e = .returned (.bool true) ∧ J (pre ++ [x]) W' ∧ KeptB n₀ Bs W W') ∨ (e = .returned (.bool false) ∧ Jx (pre ++ [x]) W'))
    (W : World) (hBs : W.cell? ⟨Bs, 0, none⟩ = some (.slice (some ⟨b, off, none⟩) len cap)) (hc : ∀ j, j < len → W.cell? ⟨b, off + j, none⟩ = some (.int .u8 (zs[j]?.getD 0))) (h0 : J [] W) :
    CallsIn F n Try.prog 28 #[.func (.yield l) #[] #[], .pointer (some ⟨Bs, 0, none⟩)] W fun e W' => (∃ v, e = .returned v) ∧
      ((∃ ys, ys = upto (bk zs len) len ∧ J ys W') ∨ (∃ pre, (∃ k, k ≤ len ∧ pre = upto (bk zs len) k) ∧ Jx pre W')) := by
  refine callsIn_of_wp Try.func28 rfl h8 ?_ hro
  simp only [Try.ntmps28, List.size_toArray, List.length_cons, List.length_nil, Nat.reduceAdd, Nat.reduceSub, Array.replicate_succ, Array.replicate_zero, List.push_toArray, List.append_toArray, List.nil_append, List.cons_append]
  have e0 : wrap64 ((len : Int) - 1) = len - 1 := by unfold wrap64; omega
  have e1 : IntKind.i64.wrap ((len : Int) - 1) = len - 1 := by rw [IntKind.wrap_i64]; omega
  gi_wp2
  gi_loopw [3] (fun i wr => ∃ k : Nat, k ≤ len ∧ i = .int .i64 ((len : Int) - 1 - k) ∧ J (upto (bk zs len) k) wr ∧ KeptB n₀ Bs W wr)
    (fun i _ => (intOf i + 1).toNat)
  case atStart => exact ⟨0, Nat.zero_le _, by simp, h0, KeptB.refl _ _ _⟩
  case round =>
    obtain ⟨k, hk, rfl, hJs, hnx⟩ := hrel
    have hbx : wr.cell? ⟨Bs, 0, none⟩ = some (.slice (some ⟨b, off, none⟩) len cap) := hnx.cell hBs
    by_cases hlt : k < len
    · obtain ⟨i, hi⟩ : ∃ i : Nat, i = len - 1 - k := ⟨_, rfl⟩
      have ei : (len : Int) - 1 - k = i := by omega
      rw [ei]
      have hcx : wr.cell? ⟨b, off + i, none⟩ = some (.int .u8 (zs[i]?.getD 0)) := (hnx.1.cell (p := ⟨b, off + i, none⟩) hb).trans (hc i (by omega))
      obtain ⟨fn, tmps, assign, body, hy, hR⟩ := hY _ (bk zs len k) wr hJs (by rw [upto_length]; exact hlt)
      unfold bk at hy
      rw [← hi] at hy
      dsimp only at hy
      have ei2 : wrap64 ((i : Int) - 1) = (len : Int) - 1 - ((k + 1 : Nat) : Int) := by unfold wrap64; omega
      have i0 : (0 : Int) ≤ (i : Int) := by omega
      have HI := Lib.hid hi
      have il : (i : Int) < (len : Int) := by omega
      have il2 : i < len := by omega
      clear hi ei
      gi_wp2
      refine hR.mono ?_
      rintro e W3 (⟨rfl, hJ3, hk3⟩ | ⟨rfl, hJx3⟩)
      · gi_wp2
        go_roundw
        case rel => exact ⟨k + 1, by omega, by have := HI.out; congr 1; omega, by rw [upto_succ]; exact hJ3, hnx.trans hk3⟩
        case measure => simp [intOf]
      · gi_wp2
        refine bodyPost_ret (results_none rfl _ _ _) rfl ?_
        exact ⟨⟨_, rfl⟩, .inr ⟨_, ⟨k + 1, by omega, (upto_succ _ _).symm⟩, hJx3⟩⟩
    · obtain rfl : k = len := by omega
      have ei : ¬ (0 : Int) ≤ (k : Int) - 1 - k := by omega
      gi_wp2
      go_end0
      exact ⟨⟨_, rfl⟩, .inl hJs⟩
set_option maxRecDepth 100000 in
set_option maxHeartbeats 1000000 in
theorem back_in (F : Fence) (n : Nat) (h6 : F.fn 26) (hro : F.round = none) (a : Option Addr) (len cap : Nat) (w : World) :
    CallsIn F n Try.prog 26 #[.slice a len cap] w fun e w' => e = .returned (.func (.func 28) #[] #[.pointer (some ⟨w.heap.size, 0, none⟩)]) ∧ w' = w.alloc (.cells #[.slice a len cap] 23) := by
  refine callsIn_of_wp Try.func26 rfl h6 ?_ hro
  simp only [Try.ntmps26, List.size_toArray, List.length_cons, List.length_nil, Nat.reduceAdd, Nat.reduceSub, Array.replicate_succ, Array.replicate_zero, List.push_toArray, List.append_toArray, List.nil_append, List.cons_append]
  gi_wp2
  go_ret
  exact ⟨rfl, rfl⟩
/-- The slice holds these bytes, in a block below n₀. -/
def Held (n₀ : Nat) (W : World) (b off : Nat) (zs : List Int) : Prop := b < n₀ ∧ ∀ j, j < zs.length → W.cell? ⟨b, off + j, none⟩ = some (.int .u8 (zs[j]?.getD 0))
theorem Held.below {n₀ : Nat} {A B : World} (h : Below n₀ A B) {b off : Nat} {zs : List Int} (k : Held n₀ A b off zs) : Held n₀ B b off zs :=
  ⟨k.1, fun j hj => (h.cell (p := ⟨b, off + j, none⟩) k.1).trans (k.2 j hj)⟩
theorem back_stops (F : Fence) (n : Nat) (h8 : F.fn 28) (hro : F.round = none) (hn : 1 ≤ n) (Bs n₀ b off cap : Nat) (zs : List Int) (hreach : zs.length ≤ 140737488351232) (w : World) (hn₀ : n₀ ≤ w.heap.size)
    (hc : w.cell? ⟨Bs, 0, none⟩ = some (.slice (some ⟨b, off, none⟩) zs.length cap)) (hI : Held n₀ w b off zs) :
    SeqStopsK F n Try.prog 28 #[.pointer (some ⟨Bs, 0, none⟩)] (fun x : Nat × Int => #[Value.int .i64 (x.1 : Int), Value.int .u8 x.2]) (KeptB n₀ Bs) (fun ys => ys = upto (bk zs zs.length) zs.length)
      (fun pre => ∃ k, k ≤ zs.length ∧ pre = upto (bk zs zs.length) k) zs.length w := fun l J Jx W hW _ _ hY h0 => by
  have hc' := (hW.cell (p := ⟨Bs, 0, none⟩) (World.block_lt_of_cell? _ _ hc)).trans hc
  have hh := hI.below (hW.mono hn₀)
  exact back1_in F n h8 hro hn l Bs n₀ b off zs.length cap zs hreach hh.1 J Jx hY W hc' hh.2 h0
/-- The number, as far as it is told. -/
def gf : List (Nat × Int) → Int := List.foldl (fun n x => Go.bits .or .u32 (n * 256 % 4294967296) (x.2 % 4294967296)) 0
theorem gf_snoc (pre : List (Nat × Int)) (x : Nat × Int) : gf (pre ++ [x]) = Go.bits .or .u32 (gf pre * 256 % 4294967296) (x.2 % 4294967296) := by simp [gf]
set_option maxRecDepth 100000 in
set_option maxHeartbeats 2000000 in
theorem get_in (F : Fence) (n : Nat) (h3 : F.fn 19) (h6 : F.fn 26) (h8 : F.fn 28) (hro : F.round = none) (hn : 3 ≤ n) (b off cap : Nat) (zs : List Int) (hreach : zs.length ≤ 140737488351232) (w : World) (hI : Held w.heap.size w b off zs) :
    CallsIn F n Try.prog 19 #[.slice (some ⟨b, off, none⟩) zs.length cap] w fun e W' => e = .returned (.int .u32 (gf (upto (bk zs zs.length) zs.length))) ∧ Below w.heap.size w W' := by
  have h1 : 1 ≤ n := by omega
  refine callsIn_of_wp_marks Try.func19 rfl h3 ?_ hro
  simp only [Try.ntmps19, List.size_toArray, List.length_cons, List.length_nil, Nat.reduceAdd, Nat.reduceSub, Array.replicate_succ, Array.replicate_zero, List.push_toArray, List.append_toArray, List.nil_append, List.cons_append]
  gi_wp2_with (gi_at_call 26; refine (back_in F (n - 1) h6 hro _ _ _ _).mono ?_; rintro e w' ⟨rfl, rfl⟩)
  have bS := Boxed.new w 22 (.int .u32 0)
  have bN := Boxed.new (w.alloc (.cells #[.int .u32 0] 22)) 23 (.slice (some ⟨b, off, none⟩) zs.length cap)
  rw [World.size_alloc] at bN
  have hB0 : Below w.heap.size w ((w.alloc (.cells #[.int .u32 0] 22)).alloc (.cells #[.slice (some ⟨b, off, none⟩) zs.length cap] 23)) := ((Below.refl _ w).alloc (Nat.le_refl _) _).alloc (by simp) _
  refine wpIn_rangeFunc_ownG hro h1 (gf := 28) (lb := #[.pointer (some ⟨w.heap.size + 1, 0, none⟩)]) rfl h8 (enters_of Try.func28 (by kernel_rfl) rfl)
    (back_stops F (n - 1) h8 hro (by omega) (w.heap.size + 1) w.heap.size b off cap zs hreach _ (by simp; omega) bN.cell (hI.below hB0)) KeptB.trans
    (fun W l o o' hl hc h1 h2 => ⟨belowK_b (w := w) (Nat.le_refl _) W l o o' (by simp at hl; omega) hc h1 h2, fun hlt => by
      have := grownBy_putObj' W l o'
      exact this.block _ hlt (by intro e; cases e; simp at hl; omega)⟩) (Below.refl _ _) (fun _ => rfl)
    (fun pre W => (W.cell? ⟨w.heap.size, 0, none⟩ = some (.int .u32 (gf pre)) ∧ W.frozen? ⟨w.heap.size, 0, none⟩ = false) ∧ Below w.heap.size w W)
    (fun _ _ _ => False)
    (OwnFrom.and (Own.from (fun s A B row hs hg hr => ⟨cell_kept hs.1 hg hr, (frozen_kept hs.1 hg hr).trans hs.2⟩) _) (ownFrom_below (Nat.le_refl _) (by simp; omega)))
    (fun _ _ _ _ _ hs _ _ => hs)
    ⟨⟨(bS.alloc _).cell, (bS.alloc _).frozen⟩, hB0⟩
    (fun x => { tmps := #[.slice (some ⟨b, off, none⟩) zs.length cap, undef, .int .u32 0, .pointer (some ⟨w.heap.size, 0, none⟩), undef, .int .u8 x.2, .slice (some ⟨b, off, none⟩) zs.length cap, .func (.func 28) #[] #[.pointer (some ⟨w.heap.size + 1, 0, none⟩)], .int .i64 (x.1 : Int), .int .u8 x.2, undef, undef, undef, undef, undef, undef], defers := [] }) ?assign ?body ?done ?stop
  case assign =>
    intro l x W K hK
    gi_wp2
    exact hK
  case body =>
    rintro l pre x W ⟨⟨hc, hf⟩, hB⟩ hlen
    gi_wp2
    have hcs := World.cell?_setCell_same' W ⟨w.heap.size, 0, none⟩ (.int .u32 (gf (pre ++ [x]))) (by rw [hc]; rfl)
    rw [gf_snoc] at hcs
    refine ⟨(KeepsOthers.setCell _ _ _).from _, ⟨(Below.refl w.heap.size W).setCell (p := ⟨w.heap.size, 0, none⟩) (Nat.le_refl _) _, fun hlt => Below.heap_setCell W ⟨w.heap.size, 0, none⟩ _ (w.heap.size + 1) (by simp)⟩, ⟨by rw [gf_snoc]; exact hcs, by rw [World.frozen?_setCell]; exact hf⟩, hB.setCell (p := ⟨w.heap.size, 0, none⟩) (Nat.le_refl _) _⟩
  case done =>
    rintro D ys W hD rfl ⟨⟨hc, _⟩, hB⟩ hK
    gi_wp2
    refine ⟨by simp, .inl ⟨_, _, rfl, run_takeDeferred hK, ?_⟩⟩
    exact ⟨_, results_tmp rfl _ _ _, rfl, hB.trans (belowK_b (w := w) (Nat.le_refl _) W D _ _ (by simp at hD; omega) hK rfl rfl)⟩
  case stop =>
    rintro D c pre W _ _ h _
    exact h.elim
/-- The bytes' number, by arithmetic. -/
theorem or_low (n c : Int) (h0 : 0 ≤ n) (h1 : n < 16777216) (c0 : 0 ≤ c) (c1 : c < 256) : Go.bits .or .u32 (n * 256 % 4294967296) (c % 4294967296) = n * 256 + c := by
  rw [Int.emod_eq_of_lt (by omega) (by omega), Int.emod_eq_of_lt (by omega) (by omega)]
  obtain ⟨m, rfl⟩ : ∃ m : Nat, n = m := ⟨n.toNat, by omega⟩
  obtain ⟨d, rfl⟩ : ∃ d : Nat, c = d := ⟨c.toNat, by omega⟩
  show IntKind.u32.wrap ((BitVec.ofInt 32 ((m : Int) * 256) ||| BitVec.ofInt 32 (d : Int)).toNat : Int) = _
  have e1 : BitVec.ofInt 32 ((m : Int) * 256) = BitVec.ofNat 32 (m * 256) := by
    apply BitVec.eq_of_toNat_eq; rw [BitVec.toNat_ofInt, BitVec.toNat_ofNat]; omega
  have e2 : BitVec.ofInt 32 (d : Int) = BitVec.ofNat 32 d := by
    apply BitVec.eq_of_toNat_eq; rw [BitVec.toNat_ofInt, BitVec.toNat_ofNat]; omega
  rw [e1, e2, BitVec.toNat_or, BitVec.toNat_ofNat, BitVec.toNat_ofNat, Nat.mod_eq_of_lt (by omega), Nat.mod_eq_of_lt (by omega)]
  have e3 : m * 256 ||| d = m * 256 + d := by
    have := Nat.two_pow_add_eq_or_of_lt (i := 8) (b := d) (by omega) m
    rw [show 2 ^ 8 * m = m * 256 by omega] at this
    exact this.symm
  rw [e3, IntKind.wrap_u32]
  omega
theorem gf_val (zs : List Int) (hb : Bytes zs) (hl : zs.length ≤ 4) : ∀ k, k ≤ zs.length → gf (upto (bk zs zs.length) k) = val (zs.drop (zs.length - k))
  | 0, _ => by rw [Nat.sub_zero, List.drop_length]; rfl
  | k + 1, h => by
    have ih := gf_val zs hb hl k (by omega)
    have hd : zs.drop (zs.length - (k + 1)) = zs[zs.length - (k + 1)]'(by omega) :: zs.drop (zs.length - k) := by
      rw [List.drop_eq_getElem_cons (by omega)]
      congr 2
      omega
    have hx := hb _ (List.getElem_mem (show zs.length - (k + 1) < zs.length by omega))
    have e : (bk zs zs.length k).2 = zs[zs.length - (k + 1)]'(by omega) := by
      unfold bk
      simp only
      rw [show zs.length - 1 - k = zs.length - (k + 1) by omega, List.getElem?_eq_getElem (by omega)]
      rfl
    have vb := val_bd (l := zs.drop (zs.length - k)) (fun x hx => hb x (List.mem_of_mem_drop hx))
    have hp : (256 : Int) ^ (zs.drop (zs.length - k)).length ≤ 16777216 := by
      rw [List.length_drop]
      have : zs.length - (zs.length - k) ≤ 3 := by omega
      rcases (show zs.length - (zs.length - k) = 0 ∨ zs.length - (zs.length - k) = 1 ∨ zs.length - (zs.length - k) = 2 ∨ zs.length - (zs.length - k) = 3 by omega) with e | e | e | e <;> rw [e] <;> decide
    rw [upto_succ, gf_snoc, ih, e, hd]
    show _ = _ + 256 * val _
    rw [or_low _ _ vb.1 (by omega) hx.1 hx.2]
    omega
/-- The number of bytes, of a made row's. -/
theorem get_calls {w : World} {b off cap : Nat} {zs : List Int} (hc : ∀ j (h : j < zs.length), w.cell? ⟨b, off + j, none⟩ = some (.int .u8 zs[j])) (hb : Bytes zs) (hl : zs.length ≤ 4) (h0 : 0 < zs.length) :
    Calls Try.prog 19 #[.slice (some ⟨b, off, none⟩) zs.length cap] w fun e w' => e = .returned (.int .u32 (val zs)) ∧ Below w.heap.size w w' := by
  have hI : Held w.heap.size w b off zs := ⟨World.block_lt_of_cell? _ _ (hc 0 h0), fun j hj => by rw [hc j hj, List.getElem?_eq_getElem hj]; rfl⟩
  refine ((callsIn_wide (n := 3)).1 (get_in _ 3 trivial trivial trivial rfl (by decide) b off cap zs (by omega) w hI)).mono ?_
  rintro e w' ⟨rfl, hB⟩
  rw [gf_val zs hb hl _ (Nat.le_refl _), Nat.sub_self, List.drop_zero]
  exact ⟨rfl, hB⟩
end Go.Proofs.Ytdekdcleeignoaa.Pk
