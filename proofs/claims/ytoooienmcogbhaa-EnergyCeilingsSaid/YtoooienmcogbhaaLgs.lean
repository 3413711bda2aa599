/-
  The walks of logs.factors and logs.Exp: Exp answers the power of so many steps, at every number; no condition.
-/
import Derived.Test.YtoooienmcogbhaaPArithRootsx1
import Derived.Test.YtoooienmcogbhaaU0
import Derived.WalkSpells
import Derived.WalkLawsBesides
import Derived.Outline
import Derived.Lib.Hide
import Derived.Laws.Rows
set_option linter.unusedVariables false
set_option linter.unusedSimpArgs false
namespace Go.Proofs.Ytoooienmcogbhaa.Lgs
open Go.RowKit Go.Proofs.Ytoooienmcogbhaa.PArithRoots Go.Proofs.YtoooienmcogbhaaW.PrintWords Go.Proofs.YtoooienmcogbhaaW.PrintLast Go.Proofs.YtoooienmcogbhaaW.PrintMore

/-- The factors. -/
def fac : List Int := [1076653032, 1079572135, 1085434105, 1097253707, 1121280435, 1170923761, 1276901416, 1518500249]
theorem root_k {n r : Int} (h : arith_Root.f 60 n = some r) (w : World) : Calls Try.prog 22 #[.int .u64 n] w fun e w' => e = .returned (.int .u32 r) ∧ ∃ m, w' = w.drewN m :=
  (arith_Root.calls 60 n r w h).mono fun _ _ ⟨he, m, hm⟩ => ⟨he, m, hm⟩
theorem pw_pos (n : Nat) : (0 : Int) < 2 ^ n := Int.pow_pos (by omega)
theorem pw_succ (n : Nat) : (2 : Int) ^ (n + 1) = 2 * 2 ^ n := by rw [Int.pow_succ]; omega
theorem pw_le {a b : Nat} (h : a ≤ b) : (2 : Int) ^ a ≤ 2 ^ b := by
  induction h with
  | refl => exact Int.le_refl _
  | step _ ih => rw [pw_succ]; have := pw_pos a; omega
theorem and_one_i64 (x : Int) : Go.bits .and .i64 x 1 = x % 2 := by
  show IntKind.i64.wrap ((BitVec.ofInt 64 x &&& BitVec.ofInt 64 1).toNat : Int) = _
  have h1 : (BitVec.ofInt 64 1).toNat = 1 := by decide
  have h2 : ((BitVec.ofInt 64 x).toNat : Int) = x % 18446744073709551616 := by
    rw [BitVec.toNat_ofInt, Int.toNat_of_nonneg (Int.emod_nonneg _ (by decide))]; rfl
  rw [BitVec.toNat_and, h1, Nat.and_one_is_mod, IntKind.wrap_i64]
  omega
/-- The factor ahead of round k, and the cells then. -/
def fAt : Nat → Int
  | 0 => 2147483648
  | 1 => 1518500249
  | 2 => 1276901416
  | 3 => 1170923761
  | 4 => 1121280435
  | 5 => 1097253707
  | 6 => 1085434105
  | 7 => 1079572135
  | 8 => 1076653032
  | _ => 0
def cAt : Nat → Array Value
  | 0 => #[.int .u64 0, .int .u64 0, .int .u64 0, .int .u64 0, .int .u64 0, .int .u64 0, .int .u64 0, .int .u64 0]
  | 1 => #[.int .u64 0, .int .u64 0, .int .u64 0, .int .u64 0, .int .u64 0, .int .u64 0, .int .u64 0, .int .u64 1518500249]
  | 2 => #[.int .u64 0, .int .u64 0, .int .u64 0, .int .u64 0, .int .u64 0, .int .u64 0, .int .u64 1276901416, .int .u64 1518500249]
  | 3 => #[.int .u64 0, .int .u64 0, .int .u64 0, .int .u64 0, .int .u64 0, .int .u64 1170923761, .int .u64 1276901416, .int .u64 1518500249]
  | 4 => #[.int .u64 0, .int .u64 0, .int .u64 0, .int .u64 0, .int .u64 1121280435, .int .u64 1170923761, .int .u64 1276901416, .int .u64 1518500249]
  | 5 => #[.int .u64 0, .int .u64 0, .int .u64 0, .int .u64 1097253707, .int .u64 1121280435, .int .u64 1170923761, .int .u64 1276901416, .int .u64 1518500249]
  | 6 => #[.int .u64 0, .int .u64 0, .int .u64 1085434105, .int .u64 1097253707, .int .u64 1121280435, .int .u64 1170923761, .int .u64 1276901416, .int .u64 1518500249]
  | 7 => #[.int .u64 0, .int .u64 1079572135, .int .u64 1085434105, .int .u64 1097253707, .int .u64 1121280435, .int .u64 1170923761, .int .u64 1276901416, .int .u64 1518500249]
  | 8 => #[.int .u64 1076653032, .int .u64 1079572135, .int .u64 1085434105, .int .u64 1097253707, .int .u64 1121280435, .int .u64 1170923761, .int .u64 1276901416, .int .u64 1518500249]
  | _ => #[]
theorem root_0 : arith_Root.f 60 2305843009213693952 = some 1518500249 := by decide +kernel
theorem root_1 : arith_Root.f 60 1630477227105714176 = some 1276901416 := by decide +kernel
theorem root_2 : arith_Root.f 60 1371062455484022784 = some 1170923761 := by decide +kernel
theorem root_3 : arith_Root.f 60 1257269814901080064 = some 1121280435 := by decide +kernel
theorem root_4 : arith_Root.f 60 1203965699492413440 = some 1097253707 := by decide +kernel
theorem root_5 : arith_Root.f 60 1178167196744941568 = some 1085434105 := by decide +kernel
theorem root_6 : arith_Root.f 60 1165475995734507520 = some 1079572135 := by decide +kernel
theorem root_7 : arith_Root.f 60 1159181753374474240 = some 1076653032 := by decide +kernel
set_option maxHeartbeats 4000000 in
set_option maxRecDepth 100000 in
theorem factors_any (w : World) : Calls Try.prog 65 #[] w fun e w' => e = .returned (.agg #[.int .u64 1076653032, .int .u64 1079572135, .int .u64 1085434105, .int .u64 1097253707, .int .u64 1121280435, .int .u64 1170923761, .int .u64 1276901416, .int .u64 1518500249]) ∧ Below w.heap.size w w' := by
  go_enter Try.func65, Try.ntmps65
  go_wp2
  go_loopw [2, 4] (fun f i wr => ∃ k : Nat, k ≤ 8 ∧ f = .int .u64 (fAt k) ∧ i = .int .i64 k ∧ Hid (Blk wr w.heap.size 90 #[.int .u64 0, .int .u64 0, .int .u64 0, .int .u64 0, .int .u64 0, .int .u64 0, .int .u64 0, .int .u64 0]) ∧ Hid (Blk wr (w.heap.size + 1) 90 (cAt k)) ∧ Below w.heap.size w wr) (fun _ i _ => 8 - (intOf i).toNat)
  case atStart => exact ⟨0, by omega, rfl, rfl, (Blk.new _ _ _).alloc _, Blk.new_at _ _ (by simp), ((Below.refl _ _).alloc (Nat.le_refl _) _).alloc (by simp) _⟩
  case round =>
    obtain ⟨k, hk, rfl, rfl, h0, h1, hb⟩ := hrel
    have hsz := hb.size
    have hc : k = 0 ∨ k = 1 ∨ k = 2 ∨ k = 3 ∨ k = 4 ∨ k = 5 ∨ k = 6 ∨ k = 7 ∨ k = 8 := by omega
    clear hk
    rcases hc with rfl | rfl | rfl | rfl | rfl | rfl | rfl | rfl | rfl
    · have c1 := (h1.out : Blk wr (w.heap.size + 1) 90 #[.int .u64 0, .int .u64 0, .int .u64 0, .int .u64 0, .int .u64 0, .int .u64 0, .int .u64 0, .int .u64 0]).cell (i := 7) (v := .int .u64 0) rfl
      have f1 := h1.out.free 7
      rw [show fAt 0 = 2147483648 from rfl, show ((0 : Nat) : Int) = 0 from rfl]
      go_wp2_with (go_at_call 22; refine (root_k root_0 _).mono ?_; rintro e w' ⟨rfl, m2, rfl⟩)
      go_roundw
      case rel => exact ⟨1, by omega, rfl, rfl, Blk.other (h0.out.drewN _) (by simp) _, Blk.set (h1.out.drewN _) 7 _, (pw_below_drewN hb _).setCell (by simp) _⟩
      case measure => simp [intOf]
    · have c1 := (h1.out : Blk wr (w.heap.size + 1) 90 #[.int .u64 0, .int .u64 0, .int .u64 0, .int .u64 0, .int .u64 0, .int .u64 0, .int .u64 0, .int .u64 1518500249]).cell (i := 6) (v := .int .u64 0) rfl
      have f1 := h1.out.free 6
      rw [show fAt 1 = 1518500249 from rfl, show ((1 : Nat) : Int) = 1 from rfl]
      go_wp2_with (go_at_call 22; refine (root_k root_1 _).mono ?_; rintro e w' ⟨rfl, m2, rfl⟩)
      go_roundw
      case rel => exact ⟨2, by omega, rfl, rfl, Blk.other (h0.out.drewN _) (by simp) _, Blk.set (h1.out.drewN _) 6 _, (pw_below_drewN hb _).setCell (by simp) _⟩
      case measure => simp [intOf]
    · have c1 := (h1.out : Blk wr (w.heap.size + 1) 90 #[.int .u64 0, .int .u64 0, .int .u64 0, .int .u64 0, .int .u64 0, .int .u64 0, .int .u64 1276901416, .int .u64 1518500249]).cell (i := 5) (v := .int .u64 0) rfl
      have f1 := h1.out.free 5
      rw [show fAt 2 = 1276901416 from rfl, show ((2 : Nat) : Int) = 2 from rfl]
      go_wp2_with (go_at_call 22; refine (root_k root_2 _).mono ?_; rintro e w' ⟨rfl, m2, rfl⟩)
      go_roundw
      case rel => exact ⟨3, by omega, rfl, rfl, Blk.other (h0.out.drewN _) (by simp) _, Blk.set (h1.out.drewN _) 5 _, (pw_below_drewN hb _).setCell (by simp) _⟩
      case measure => simp [intOf]
    · have c1 := (h1.out : Blk wr (w.heap.size + 1) 90 #[.int .u64 0, .int .u64 0, .int .u64 0, .int .u64 0, .int .u64 0, .int .u64 1170923761, .int .u64 1276901416, .int .u64 1518500249]).cell (i := 4) (v := .int .u64 0) rfl
      have f1 := h1.out.free 4
      rw [show fAt 3 = 1170923761 from rfl, show ((3 : Nat) : Int) = 3 from rfl]
      go_wp2_with (go_at_call 22; refine (root_k root_3 _).mono ?_; rintro e w' ⟨rfl, m2, rfl⟩)
      go_roundw
      case rel => exact ⟨4, by omega, rfl, rfl, Blk.other (h0.out.drewN _) (by simp) _, Blk.set (h1.out.drewN _) 4 _, (pw_below_drewN hb _).setCell (by simp) _⟩
      case measure => simp [intOf]
    · have c1 := (h1.out : Blk wr (w.heap.size + 1) 90 #[.int .u64 0, .int .u64 0, .int .u64 0, .int .u64 0, .int .u64 1121280435, .int .u64 1170923761, .int .u64 1276901416, .int .u64 1518500249]).cell (i := 3) (v := .int .u64 0) rfl
      have f1 := h1.out.free 3
      rw [show fAt 4 = 1121280435 from rfl, show ((4 : Nat) : Int) = 4 from rfl]
      go_wp2_with (go_at_call 22; refine (root_k root_4 _).mono ?_; rintro e w' ⟨rfl, m2, rfl⟩)
      go_roundw
      case rel => exact ⟨5, by omega, rfl, rfl, Blk.other (h0.out.drewN _) (by simp) _, Blk.set (h1.out.drewN _) 3 _, (pw_below_drewN hb _).setCell (by simp) _⟩
      case measure => simp [intOf]
    · have c1 := (h1.out : Blk wr (w.heap.size + 1) 90 #[.int .u64 0, .int .u64 0, .int .u64 0, .int .u64 1097253707, .int .u64 1121280435, .int .u64 1170923761, .int .u64 1276901416, .int .u64 1518500249]).cell (i := 2) (v := .int .u64 0) rfl
      have f1 := h1.out.free 2
      rw [show fAt 5 = 1097253707 from rfl, show ((5 : Nat) : Int) = 5 from rfl]
      go_wp2_with (go_at_call 22; refine (root_k root_5 _).mono ?_; rintro e w' ⟨rfl, m2, rfl⟩)
      go_roundw
      case rel => exact ⟨6, by omega, rfl, rfl, Blk.other (h0.out.drewN _) (by simp) _, Blk.set (h1.out.drewN _) 2 _, (pw_below_drewN hb _).setCell (by simp) _⟩
      case measure => simp [intOf]
    · have c1 := (h1.out : Blk wr (w.heap.size + 1) 90 #[.int .u64 0, .int .u64 0, .int .u64 1085434105, .int .u64 1097253707, .int .u64 1121280435, .int .u64 1170923761, .int .u64 1276901416, .int .u64 1518500249]).cell (i := 1) (v := .int .u64 0) rfl
      have f1 := h1.out.free 1
      rw [show fAt 6 = 1085434105 from rfl, show ((6 : Nat) : Int) = 6 from rfl]
      go_wp2_with (go_at_call 22; refine (root_k root_6 _).mono ?_; rintro e w' ⟨rfl, m2, rfl⟩)
      go_roundw
      case rel => exact ⟨7, by omega, rfl, rfl, Blk.other (h0.out.drewN _) (by simp) _, Blk.set (h1.out.drewN _) 1 _, (pw_below_drewN hb _).setCell (by simp) _⟩
      case measure => simp [intOf]
    · have c1 := (h1.out : Blk wr (w.heap.size + 1) 90 #[.int .u64 0, .int .u64 1079572135, .int .u64 1085434105, .int .u64 1097253707, .int .u64 1121280435, .int .u64 1170923761, .int .u64 1276901416, .int .u64 1518500249]).cell (i := 0) (v := .int .u64 0) rfl
      have f1 := h1.out.free 0
      rw [show fAt 7 = 1079572135 from rfl, show ((7 : Nat) : Int) = 7 from rfl]
      go_wp2_with (go_at_call 22; refine (root_k root_7 _).mono ?_; rintro e w' ⟨rfl, m2, rfl⟩)
      go_roundw
      case rel => exact ⟨8, by omega, rfl, rfl, Blk.other (h0.out.drewN _) (by simp) _, Blk.set (h1.out.drewN _) 0 _, (pw_below_drewN hb _).setCell (by simp) _⟩
      case measure => simp [intOf]
    · rw [show fAt 8 = 1076653032 from rfl, show ((8 : Nat) : Int) = 8 from rfl]
      go_wp2_with (first | (refine wpList_load_row rfl 90 _ rfl (w.heap.size + 1) rfl 90 _ (0, 0) _ (h1.out : Blk wr (w.heap.size + 1) 90 #[.int .u64 1076653032, .int .u64 1079572135, .int .u64 1085434105, .int .u64 1097253707, .int .u64 1121280435, .int .u64 1170923761, .int .u64 1276901416, .int .u64 1518500249]) Try.underlying90 rfl (by kernel_rfl) ?_) | (refine wpList_store_row rfl 90 _ _ rfl w.heap.size #[.int .u64 1076653032, .int .u64 1079572135, .int .u64 1085434105, .int .u64 1097253707, .int .u64 1121280435, .int .u64 1170923761, .int .u64 1276901416, .int .u64 1518500249] rfl rfl 90 _ (h0.out : Blk wr w.heap.size 90 #[.int .u64 0, .int .u64 0, .int .u64 0, .int .u64 0, .int .u64 0, .int .u64 0, .int .u64 0, .int .u64 0]) (by kernel_rfl) rfl (by kernel_rfl) ?_))
      have hb2 := Blk.row h0.out #[.int .u64 1076653032, .int .u64 1079572135, .int .u64 1085434105, .int .u64 1097253707, .int .u64 1121280435, .int .u64 1170923761, .int .u64 1276901416, .int .u64 1518500249]
      refine bodyPost_ret (results_cell_row rfl _ _ w.heap.size 90 _ (0, 0) _ rfl hb2 Try.underlying90 rfl (by kernel_rfl)) rfl ⟨rfl, below_row hb (Nat.le_refl _) _⟩
def facV (j : Nat) : Int := match j with | 0 => 1076653032 | 1 => 1079572135 | 2 => 1085434105 | 3 => 1097253707 | 4 => 1121280435 | 5 => 1170923761 | 6 => 1276901416 | 7 => 1518500249 | _ => 0
/-- The product of the first j factors that the bits of s ask for. -/
def prodI (s : Int) : Nat → Int
  | 0 => 1073741824
  | j + 1 => if (s / 2 ^ j) % 2 = 1 then prodI s j * facV j / 1073741824 else prodI s j
theorem prodI_mod (s : Int) (j : Nat) (hj : j ≤ 8) : prodI s j = prodI (s % 256) j := by
  induction j with
  | zero => rfl
  | succ j ih =>
    have ih := ih (by omega)
    have e : (s / 2 ^ j) % 2 = (s % 256 / 2 ^ j) % 2 := by
      have hc : j = 0 ∨ j = 1 ∨ j = 2 ∨ j = 3 ∨ j = 4 ∨ j = 5 ∨ j = 6 ∨ j = 7 := by omega
      rcases hc with rfl | rfl | rfl | rfl | rfl | rfl | rfl | rfl <;> simp only [Int.reducePow, Int.pow_zero] <;> omega
    show (if (s / 2 ^ j) % 2 = 1 then prodI s j * facV j / 1073741824 else prodI s j) = if (s % 256 / 2 ^ j) % 2 = 1 then prodI (s % 256) j * facV j / 1073741824 else prodI (s % 256) j
    rw [e, ih]
theorem prodI_all : ∀ (i : Fin 256) (j : Fin 9), 1073741824 ≤ prodI (i.val : Int) j.val ∧ prodI (i.val : Int) j.val < 2147483648 := by decide +kernel
theorem prodI_bd (s : Int) (j : Nat) (hj : j ≤ 8) : 1073741824 ≤ prodI s j ∧ prodI s j < 2147483648 := by
  rw [prodI_mod s j hj]
  have := prodI_all ⟨(s % 256).toNat, by omega⟩ ⟨j, by omega⟩
  simpa [Int.toNat_of_nonneg (show 0 ≤ s % 256 by omega)] using this
/-- The power of s steps. -/
def expI (s : Int) : Int := if s < 0 then 0 else if s ≥ 8192 then 4294967295 else if s / 256 ≥ 30 then (if prodI s 8 * 2 ^ (s / 256 - 30).toNat ≤ 4294967295 then prodI s 8 * 2 ^ (s / 256 - 30).toNat else 4294967295) else prodI s 8 / 2 ^ (30 - s / 256).toNat
theorem expI_low {s p : Int} (hp : prodI s 8 = p) (h0 : 0 ≤ s) (h1 : s < 7680) : Ending.returned (.int .u32 (p / 2 ^ (30 - s / 256).toNat % 4294967296)) = .returned (.int .u32 (expI s)) := by
  have hb := prodI_bd s 8 (by omega)
  unfold expI
  rw [if_neg (by omega), if_neg (by omega), if_neg (by omega), hp]
  rw [hp] at hb
  have hd := pw_pos (30 - s / 256).toNat
  have h2 : p / 2 ^ (30 - s / 256).toNat ≤ p := Int.ediv_le_self _ (by omega)
  have h3 : 0 ≤ p / 2 ^ (30 - s / 256).toNat := Int.ediv_nonneg (by omega) (by omega)
  rw [show p / 2 ^ (30 - s / 256).toNat % 4294967296 = p / 2 ^ (30 - s / 256).toNat from by omega]
theorem expI_hi {s p : Int} (hp : prodI s 8 = p) (h0 : 7680 ≤ s) (h1 : s < 8192) : IntKind.u64.wrap (p * 2 ^ (s / 256 - 30).toNat) = p * 2 ^ (s / 256 - 30).toNat ∧ 0 ≤ p * 2 ^ (s / 256 - 30).toNat ∧ expI s = if p * 2 ^ (s / 256 - 30).toNat ≤ 4294967295 then p * 2 ^ (s / 256 - 30).toNat else 4294967295 := by
  have hb := prodI_bd s 8 (by omega)
  unfold expI
  rw [hp] at hb
  have he : (2 : Int) ^ (s / 256 - 30).toNat = 1 ∨ (2 : Int) ^ (s / 256 - 30).toNat = 2 := by
    have hc : (s / 256 - 30).toNat = 0 ∨ (s / 256 - 30).toNat = 1 := by omega
    rcases hc with h | h <;> rw [h] <;> simp
  rw [if_neg (by omega), if_neg (by omega), if_pos (by omega), hp, IntKind.wrap_u64]
  generalize (2 : Int) ^ (s / 256 - 30).toNat = e at *
  rcases he with rfl | rfl <;> omega
theorem prod_yes {s p : Int} (j : Nat) (hp : prodI s j = p) (h : (bits BinOp.and IntKind.i64 (s / 2 ^ j) 1 == 1) = true) : p * facV j / 1073741824 = prodI s (j + 1) := by
  rw [and_one_i64, beq_iff_eq] at h
  show _ = if (s / 2 ^ j) % 2 = 1 then prodI s j * facV j / 1073741824 else prodI s j
  rw [if_pos h, hp]
theorem prod_no {s p : Int} (j : Nat) (hp : prodI s j = p) (h : (bits BinOp.and IntKind.i64 (s / 2 ^ j) 1 == 1) = false) : p = prodI s (j + 1) := by
  rw [and_one_i64, beq_eq_false_iff_ne] at h
  show _ = if (s / 2 ^ j) % 2 = 1 then prodI s j * facV j / 1073741824 else prodI s j
  rw [if_neg h, hp]
set_option maxHeartbeats 4000000 in
set_option maxRecDepth 100000 in
theorem Exp_mid (s : Int) (h0 : 0 ≤ s) (h1 : s < 8192) (w : World) : Calls Try.prog 51 #[.int .i64 s] w fun e w' => e = .returned (.int .u32 (expI s)) ∧ Below w.heap.size w w' := by
  have i0 : ∀ w : World, (Instr.index 90 (.agg #[.int .u64 1076653032, .int .u64 1079572135, .int .u64 1085434105, .int .u64 1097253707, .int .u64 1121280435, .int .u64 1170923761, .int .u64 1276901416, .int .u64 1518500249]) (.int .i64 0)).run Try.prog w = .ok (.int .u64 1076653032) w := fun _ => by kernel_rfl
  have i1 : ∀ w : World, (Instr.index 90 (.agg #[.int .u64 1076653032, .int .u64 1079572135, .int .u64 1085434105, .int .u64 1097253707, .int .u64 1121280435, .int .u64 1170923761, .int .u64 1276901416, .int .u64 1518500249]) (.int .i64 1)).run Try.prog w = .ok (.int .u64 1079572135) w := fun _ => by kernel_rfl
  have i2 : ∀ w : World, (Instr.index 90 (.agg #[.int .u64 1076653032, .int .u64 1079572135, .int .u64 1085434105, .int .u64 1097253707, .int .u64 1121280435, .int .u64 1170923761, .int .u64 1276901416, .int .u64 1518500249]) (.int .i64 2)).run Try.prog w = .ok (.int .u64 1085434105) w := fun _ => by kernel_rfl
  have i3 : ∀ w : World, (Instr.index 90 (.agg #[.int .u64 1076653032, .int .u64 1079572135, .int .u64 1085434105, .int .u64 1097253707, .int .u64 1121280435, .int .u64 1170923761, .int .u64 1276901416, .int .u64 1518500249]) (.int .i64 3)).run Try.prog w = .ok (.int .u64 1097253707) w := fun _ => by kernel_rfl
  have i4 : ∀ w : World, (Instr.index 90 (.agg #[.int .u64 1076653032, .int .u64 1079572135, .int .u64 1085434105, .int .u64 1097253707, .int .u64 1121280435, .int .u64 1170923761, .int .u64 1276901416, .int .u64 1518500249]) (.int .i64 4)).run Try.prog w = .ok (.int .u64 1121280435) w := fun _ => by kernel_rfl
  have i5 : ∀ w : World, (Instr.index 90 (.agg #[.int .u64 1076653032, .int .u64 1079572135, .int .u64 1085434105, .int .u64 1097253707, .int .u64 1121280435, .int .u64 1170923761, .int .u64 1276901416, .int .u64 1518500249]) (.int .i64 5)).run Try.prog w = .ok (.int .u64 1170923761) w := fun _ => by kernel_rfl
  have i6 : ∀ w : World, (Instr.index 90 (.agg #[.int .u64 1076653032, .int .u64 1079572135, .int .u64 1085434105, .int .u64 1097253707, .int .u64 1121280435, .int .u64 1170923761, .int .u64 1276901416, .int .u64 1518500249]) (.int .i64 6)).run Try.prog w = .ok (.int .u64 1276901416) w := fun _ => by kernel_rfl
  have i7 : ∀ w : World, (Instr.index 90 (.agg #[.int .u64 1076653032, .int .u64 1079572135, .int .u64 1085434105, .int .u64 1097253707, .int .u64 1121280435, .int .u64 1170923761, .int .u64 1276901416, .int .u64 1518500249]) (.int .i64 7)).run Try.prog w = .ok (.int .u64 1518500249) w := fun _ => by kernel_rfl
  have s0 : ¬ s < 0 := by omega
  have s1 : ¬ 8192 ≤ s := by omega
  go_enter Try.func51, Try.ntmps51
  go_wp2_with (go_at_call 65; refine (factors_any _).mono ?_; rintro e w1 ⟨rfl, hb⟩)
  go_loop [3, 12] (fun n i => ∃ k : Nat, k ≤ 8 ∧ n = .int .u64 (prodI s k) ∧ i = .int .i64 k) (fun _ i => 8 - (intOf i).toNat)
  case atStart => exact ⟨0, by omega, rfl, rfl⟩
  case round =>
    obtain ⟨k, hk, rfl, rfl⟩ := hrel
    obtain ⟨p0, p1⟩ := prodI_bd s k hk
    obtain ⟨p, hp⟩ : ∃ p, prodI s k = p := ⟨_, rfl⟩
    rw [hp] at p0 p1 ⊢
    have HP := Lib.hid hp
    clear hp
    have hc : k = 0 ∨ k = 1 ∨ k = 2 ∨ k = 3 ∨ k = 4 ∨ k = 5 ∨ k = 6 ∨ k = 7 ∨ k = 8 := by omega
    clear hk
    rcases hc with rfl | rfl | rfl | rfl | rfl | rfl | rfl | rfl | rfl
    · rw [show ((0 : Nat) : Int) = 0 from rfl]
      go_wp2
      · have ht : (bits BinOp.and IntKind.i64 (s) 1 == 1) = true := by assumption
        exact ⟨⟨1, by omega, congrArg _ (prod_yes 0 HP.out (by rw [Int.pow_zero, Int.ediv_one]; exact ht)), rfl⟩, by simp [intOf]⟩
      · have ht : (bits BinOp.and IntKind.i64 (s) 1 == 1) = false := by assumption
        exact ⟨⟨1, by omega, congrArg _ (prod_no 0 HP.out (by rw [Int.pow_zero, Int.ediv_one]; exact ht)), rfl⟩, by simp [intOf]⟩
    · rw [show ((1 : Nat) : Int) = 1 from rfl]
      go_wp2
      · have ht : (bits BinOp.and IntKind.i64 (s / 2) 1 == 1) = true := by assumption
        exact ⟨⟨2, by omega, congrArg _ (prod_yes 1 HP.out (by rw [show ((2 : Int) ^ 1) = 2 from rfl]; exact ht)), rfl⟩, by simp [intOf]⟩
      · have ht : (bits BinOp.and IntKind.i64 (s / 2) 1 == 1) = false := by assumption
        exact ⟨⟨2, by omega, congrArg _ (prod_no 1 HP.out (by rw [show ((2 : Int) ^ 1) = 2 from rfl]; exact ht)), rfl⟩, by simp [intOf]⟩
    · rw [show ((2 : Nat) : Int) = 2 from rfl]
      go_wp2
      · have ht : (bits BinOp.and IntKind.i64 (s / 4) 1 == 1) = true := by assumption
        exact ⟨⟨3, by omega, congrArg _ (prod_yes 2 HP.out (by rw [show ((2 : Int) ^ 2) = 4 from rfl]; exact ht)), rfl⟩, by simp [intOf]⟩
      · have ht : (bits BinOp.and IntKind.i64 (s / 4) 1 == 1) = false := by assumption
        exact ⟨⟨3, by omega, congrArg _ (prod_no 2 HP.out (by rw [show ((2 : Int) ^ 2) = 4 from rfl]; exact ht)), rfl⟩, by simp [intOf]⟩
    · rw [show ((3 : Nat) : Int) = 3 from rfl]
      go_wp2
      · have ht : (bits BinOp.and IntKind.i64 (s / 8) 1 == 1) = true := by assumption
        exact ⟨⟨4, by omega, congrArg _ (prod_yes 3 HP.out (by rw [show ((2 : Int) ^ 3) = 8 from rfl]; exact ht)), rfl⟩, by simp [intOf]⟩
      · have ht : (bits BinOp.and IntKind.i64 (s / 8) 1 == 1) = false := by assumption
        exact ⟨⟨4, by omega, congrArg _ (prod_no 3 HP.out (by rw [show ((2 : Int) ^ 3) = 8 from rfl]; exact ht)), rfl⟩, by simp [intOf]⟩
    · rw [show ((4 : Nat) : Int) = 4 from rfl]
      go_wp2
      · have ht : (bits BinOp.and IntKind.i64 (s / 16) 1 == 1) = true := by assumption
        exact ⟨⟨5, by omega, congrArg _ (prod_yes 4 HP.out (by rw [show ((2 : Int) ^ 4) = 16 from rfl]; exact ht)), rfl⟩, by simp [intOf]⟩
      · have ht : (bits BinOp.and IntKind.i64 (s / 16) 1 == 1) = false := by assumption
        exact ⟨⟨5, by omega, congrArg _ (prod_no 4 HP.out (by rw [show ((2 : Int) ^ 4) = 16 from rfl]; exact ht)), rfl⟩, by simp [intOf]⟩
    · rw [show ((5 : Nat) : Int) = 5 from rfl]
      go_wp2
      · have ht : (bits BinOp.and IntKind.i64 (s / 32) 1 == 1) = true := by assumption
        exact ⟨⟨6, by omega, congrArg _ (prod_yes 5 HP.out (by rw [show ((2 : Int) ^ 5) = 32 from rfl]; exact ht)), rfl⟩, by simp [intOf]⟩
      · have ht : (bits BinOp.and IntKind.i64 (s / 32) 1 == 1) = false := by assumption
        exact ⟨⟨6, by omega, congrArg _ (prod_no 5 HP.out (by rw [show ((2 : Int) ^ 5) = 32 from rfl]; exact ht)), rfl⟩, by simp [intOf]⟩
    · rw [show ((6 : Nat) : Int) = 6 from rfl]
      go_wp2
      · have ht : (bits BinOp.and IntKind.i64 (s / 64) 1 == 1) = true := by assumption
        exact ⟨⟨7, by omega, congrArg _ (prod_yes 6 HP.out (by rw [show ((2 : Int) ^ 6) = 64 from rfl]; exact ht)), rfl⟩, by simp [intOf]⟩
      · have ht : (bits BinOp.and IntKind.i64 (s / 64) 1 == 1) = false := by assumption
        exact ⟨⟨7, by omega, congrArg _ (prod_no 6 HP.out (by rw [show ((2 : Int) ^ 6) = 64 from rfl]; exact ht)), rfl⟩, by simp [intOf]⟩
    · rw [show ((7 : Nat) : Int) = 7 from rfl]
      go_wp2
      · have ht : (bits BinOp.and IntKind.i64 (s / 128) 1 == 1) = true := by assumption
        exact ⟨⟨8, by omega, congrArg _ (prod_yes 7 HP.out (by rw [show ((2 : Int) ^ 7) = 128 from rfl]; exact ht)), rfl⟩, by simp [intOf]⟩
      · have ht : (bits BinOp.and IntKind.i64 (s / 128) 1 == 1) = false := by assumption
        exact ⟨⟨8, by omega, congrArg _ (prod_no 7 HP.out (by rw [show ((2 : Int) ^ 7) = 128 from rfl]; exact ht)), rfl⟩, by simp [intOf]⟩
    · rw [show ((8 : Nat) : Int) = 8 from rfl]
      by_cases ha : s < 7680
      · go_wp2
        go_ret
        exact ⟨expI_low HP.out h0 ha, hb⟩
      · go_wp2
        · have hx : 4294967295 < IntKind.u64.wrap (p * 2 ^ (s / 256 - 30).toNat) := by assumption
          obtain ⟨e1, e2, e3⟩ := expI_hi HP.out (by omega) h1
          rw [e1] at hx
          have hv : (4294967295 : Int) = expI s := by rw [e3, if_neg (by omega)]
          go_ret
          exact ⟨congrArg (fun x => Ending.returned (Value.int .u32 x)) hv, hb⟩
        · have hx : IntKind.u64.wrap (p * 2 ^ (s / 256 - 30).toNat) ≤ 4294967295 := by assumption
          obtain ⟨e1, e2, e3⟩ := expI_hi HP.out (by omega) h1
          rw [e1] at hx
          have hv : IntKind.u64.wrap (p * 2 ^ (s / 256 - 30).toNat) % 4294967296 = expI s := by rw [e1, e3, if_pos hx]; omega
          go_ret
          exact ⟨congrArg (fun x => Ending.returned (Value.int .u32 x)) hv, hb⟩
theorem Exp_any (s : Int) (w : World) : Calls Try.prog 51 #[.int .i64 s] w fun e w' => e = .returned (.int .u32 (expI s)) ∧ Below w.heap.size w w' := by
  by_cases h0 : s < 0
  · have e : expI s = 0 := by unfold expI; rw [if_pos h0]
    rw [e]
    go_enter Try.func51, Try.ntmps51
    go_wp2
    go_ret
    exact ⟨rfl, Below.refl _ _⟩
  · by_cases h1 : 8192 ≤ s
    · have e : expI s = 4294967295 := by unfold expI; rw [if_neg h0, if_pos h1]
      rw [e]
      go_enter Try.func51, Try.ntmps51
      go_wp2
      go_ret
      exact ⟨rfl, Below.refl _ _⟩
    · exact Exp_mid s (by omega) (by omega) w
end Go.Proofs.Ytoooienmcogbhaa.Lgs
