/-
  Packets: the document's number, of and same. No condition but those told.
-/
import Derived.Test.YtdekdcleeignoaaPkt
set_option linter.unusedVariables false
set_option linter.unusedSimpArgs false
namespace Go.Proofs.Ytdekdcleeignoaa.Pk
open Go.RowKit Go.Proofs.Ytdekdcleeignoaa Go.Proofs.YtdekdcleeignoaaW.PrintWords
theorem val_drop {xs : List Int} {i : Nat} (h : i < xs.length) : val (xs.drop i) = xs.getD i 0 + 256 * val (xs.drop (i + 1)) := by
  rw [List.drop_eq_getElem_cons h, ← getD_of h]; rfl
set_option maxHeartbeats 1000000 in
theorem value_h {w : World} {g off n c : Nat} {xs : List Int} (hr : Row8 w g off xs) (hn : xs.length = n) (hb : Bytes xs) (hl : n ≤ 4) :
    Calls Try.prog 23 #[.slice (some ⟨g, off, none⟩) n c] w fun e w' => e = .returned (.int .u32 (val xs)) ∧ w' = w := by
  have HR := Lib.hid hr
  have HN := Lib.hid hn
  have HB := Lib.hid hb
  have e0 : wrap64 ((n : Int) - 1) = (n : Int) - 1 := by unfold wrap64; omega
  have e1 : IntKind.i64.wrap ((n : Int) - 1) = (n : Int) - 1 := by rw [IntKind.wrap_i64]; omega
  clear hr hn hb
  go_enter Try.func23, Try.ntmps23
  go_wp2_with fail
  go_loopw [3, 4] (fun v i wr => ∃ k : Nat, k ≤ n ∧ i = .int .i64 ((n : Int) - 1 - k) ∧ v = .int .u32 (val (xs.drop (n - k))) ∧ wr = w) (fun _ i _ => (intOf i + 1).toNat)
  case atStart => exact ⟨0, by omega, by simp, by rw [Nat.sub_zero, ← HN.out, List.drop_length]; rfl, rfl⟩
  case round =>
    obtain ⟨k, hk, rfl, rfl, rfl⟩ := hrel
    by_cases hlt : k < n
    · obtain ⟨i, hi⟩ : ∃ i : Nat, i = n - 1 - k := ⟨_, rfl⟩
      have ei : (n : Int) - 1 - k = i := by omega
      have en : n - k = i + 1 := by omega
      have hi2 : i < xs.length := by rw [HN.out]; omega
      have x0 := HR.out i hi2
      have y0 := HB.out _ (List.getElem_mem hi2)
      rw [getD_of hi2] at x0 y0
      have vd := val_drop hi2
      have vb := val_bd (fun x hx => HB.out x (List.mem_of_mem_drop hx) : Bytes (xs.drop (i + 1)))
      have vl : (256 : Int) ^ (xs.drop (i + 1)).length ≤ 16777216 := by
        rw [List.length_drop, HN.out]
        rcases (show n - (i + 1) = 0 ∨ n - (i + 1) = 1 ∨ n - (i + 1) = 2 ∨ n - (i + 1) = 3 by omega) with h | h | h | h <;> rw [h] <;> decide
      rw [ei, en]
      obtain ⟨y, hy⟩ : ∃ y, xs.getD i 0 = y := ⟨_, rfl⟩
      rw [hy] at x0 y0 vd
      obtain ⟨V, hV⟩ : ∃ V, val (xs.drop (i + 1)) = V := ⟨_, rfl⟩
      rw [hV] at vd vb ⊢
      have v0 : 0 ≤ V := vb.1
      have v1 : V < 16777216 := by omega
      have a1 : (256 * V) % 4294967296 = 256 * V := by omega
      have a2 : y % 4294967296 = y := by omega
      have a3 : (256 * V + y) % 4294967296 = 256 * V + y := by omega
      have i0 : (0 : Int) ≤ (i : Int) := by omega
      have i1 : (i : Int) < (n : Int) := by omega
      have i2 : i < n := by omega
      have a4 : wrap64 ((i : Int) - 1) = (i : Int) - 1 := by unfold wrap64; omega
      have a5 : (n : Int) - 1 - ((k + 1 : Nat) : Int) = (i : Int) - 1 := by omega
      have a6 : n - (k + 1) = i := by omega
      have HVD := Lib.hid vd
      have A5 := Lib.hid a5
      have A6 := Lib.hid a6
      have HI := Lib.hid hi
      have KN := Lib.hid hlt
      clear hi ei en vd vb vl hV hy a5 a6 hlt hk
      go_wp2_with fail
      go_roundw
      case rel => exact ⟨k + 1, KN.out, by rw [A5.out], by rw [A6.out, HVD.out, Int.add_comm], trivial⟩
      case measure => simp [intOf]
    · obtain rfl : k = n := by omega
      have e3 : (k : Int) - 1 - k = -1 := by omega
      rw [e3, Nat.sub_self, List.drop_zero]
      go_wp2_with fail
      go_ret
      exact ⟨rfl, rfl⟩
/-- Cells of both packets are alike. -/
theorem of_h {w : World} (p : P) {a : Option Addr} {n c : Nat} :
    Calls Try.prog 10 #[.agg (pcells p (.slice a n c))] w fun e w' => e = .returned (.agg (pcells p (.slice a n c))) ∧ Below w.heap.size w w' := by
  obtain ⟨ep, nu, wh, pay⟩ := p
  simp only [pcells]
  go_enter Try.func10, Try.ntmps10
  go_wp2_with fail
  exact bodyPost_ret (v := .agg #[.int .u32 ep, .int .u32 nu, .bool wh, .slice a n c]) (by simp [results, Try.results10, go_sem]) rfl ⟨rfl, ((Below.refl _ _).alloc (Nat.le_refl _) _).alloc (by simp) _⟩
/-- Packets that are the same. -/
theorem same_h {w : World} (p : P) {a1 a2 : Option Addr} {n1 c1 n2 c2 : Nat} (S1 : Src w .u8 (.slice a1 n1 c1) p.pay) (S2 : Src w .u8 (.slice a2 n2 c2) p.pay) :
    Calls Try.prog 11 #[.agg (pcells p (.slice a1 n1 c1)), .agg (pcells p (.slice a2 n2 c2))] w fun e w' => e = .returned (.bool true) ∧ Below w.heap.size w w' := by
  obtain ⟨ep, nu, wh, pay⟩ := p
  have b1 : Below w.heap.size w ((w.alloc (.cells #[.int .u32 ep, .int .u32 nu, .bool wh, .slice a1 n1 c1] 25)).alloc (.cells #[.int .u32 ep, .int .u32 nu, .bool wh, .slice a2 n2 c2] 33)) := ((Below.refl _ _).alloc (Nat.le_refl _) _).alloc (by simp) _
  have k1 := Src.str (P := Try.prog) Try.underlying23 Try.underlying5 Try.underlying9 (S1.below b1)
  have k2 := Src.str (P := Try.prog) Try.underlying23 Try.underlying5 Try.underlying9 (S2.below b1)
  have B1 := Lib.hid b1
  clear b1 S1 S2
  simp only [pcells]
  go_enter Try.func11, Try.ntmps11
  go_wp2_with fail
  go_ret
  exact ⟨rfl, B1.out⟩
end Go.Proofs.Ytdekdcleeignoaa.Pk
