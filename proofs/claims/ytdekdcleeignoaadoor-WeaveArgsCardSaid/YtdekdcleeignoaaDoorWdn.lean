/-
  Words: names, and numbers. No condition but those told.
-/
import Derived.Test.YtdekdcleeignoaaDoorWdb
import Derived.ProofKit
set_option linter.unusedVariables false
set_option linter.unusedSimpArgs false
namespace Go.Proofs.YtdekdcleeignoaaDoor.Wd
open Go.RowKit Go.Proofs
/-- A letter, or a figure. -/
def plainC (c : Int) : Bool := decide ((97 ≤ c ∧ c ≤ 122) ∨ (65 ≤ c ∧ c ≤ 90) ∨ (48 ≤ c ∧ c ≤ 57))
set_option maxHeartbeats 2000000 in
set_option maxRecDepth 100000 in
theorem plain_h (c : Int) (w : World) : Calls Tryd.prog 57 #[.int .i32 c] w fun e w' => e = .returned (.bool (plainC c)) ∧ w' = w := by
  go_enter Tryd.func57, Tryd.ntmps57
  go_wp2
  all_goals go_ret
  all_goals (
    refine ⟨?_, rfl⟩
    show Ending.returned (Value.bool _) = Ending.returned (Value.bool _)
    congr 2
    rw [Bool.eq_iff_iff]
    unfold plainC
    simp only [Bool.or_eq_true, decide_eq_true_eq, Bool.false_eq_true, true_iff, false_iff]
    omega)
set_option maxHeartbeats 2000000 in
set_option maxRecDepth 100000 in
theorem rplain_h (c : Int) (w : World) : Calls Tryd.prog 58 #[.int .u8 c] w fun e w' => e = .returned (.bool (plainC c)) ∧ w' = w := by
  go_enter Tryd.func58, Tryd.ntmps58
  go_wp2
  all_goals go_ret
  all_goals (
    refine ⟨?_, rfl⟩
    show Ending.returned (Value.bool _) = Ending.returned (Value.bool _)
    congr 2
    rw [Bool.eq_iff_iff]
    unfold plainC
    simp only [Bool.or_eq_true, decide_eq_true_eq, Bool.false_eq_true, true_iff, false_iff]
    omega)
/-- A byte of a name. -/
def okc (x : Nat → Bool) (s : ByteArray) (a b : Nat) : Bool := (List.range (b - a)).all fun i => x (s.get! (a + i)).toNat
theorem okc_true {x : Nat → Bool} {s : ByteArray} {a b : Nat} (h : ∀ i, a ≤ i → i < b → x (s.get! i).toNat = true) : okc x s a b = true := by
  unfold okc
  rw [List.all_eq_true]
  intro i hi
  exact h (a + i) (by omega) (by have := List.mem_range.1 hi; omega)
theorem okc_false {x : Nat → Bool} {s : ByteArray} {a b i : Nat} (h1 : a ≤ i) (h2 : i < b) (h : x (s.get! i).toNat = false) : okc x s a b = false := by
  unfold okc
  rw [List.all_eq_false]
  exact ⟨i - a, List.mem_range.2 (by omega), by rw [show a + (i - a) = i by omega, h]; decide⟩
theorem get!_eq (s : ByteArray) (i : Nat) (h : i < s.size) : s.get! i = s[i]'h := by
  show s.data[i]! = s.data[i]'h
  exact getElem!_pos s.data i h
def namec (c : Nat) : Bool := plainC c || c == 45
def nameB (s : ByteArray) : Bool := decide (0 < s.size ∧ s.size ≤ 40) && okc namec s 0 s.size
set_option maxHeartbeats 2000000 in
set_option maxRecDepth 100000 in
theorem rName_h (s : ByteArray) (hs : s.size ≤ 100000) (w : World) : Calls Tryd.prog 34 #[.string s] w fun e w' => e = .returned (.bool (nameB s)) ∧ w' = w := by
  go_enter Tryd.func34, Tryd.ntmps34
  go_wp2_with fail
  go_loopw [3] (fun v wr => ∃ k : Nat, k ≤ s.size ∧ v = .int .i64 (k : Int) ∧ wr = w ∧ Hid (∀ i, i < k → namec (s.get! i).toNat = true)) (fun v _ => s.size - (Lib.intOf v).toNat)
  case atStart => exact ⟨0, by omega, rfl, rfl, Lib.hid (fun i hi => by omega)⟩
  case round =>
    obtain ⟨k, hk, rfl, rfl, HG⟩ := hrel
    by_cases hlt : k < s.size
    · have dk : decide ((k : Int) < (s.size : Int)) = true := decide_eq_true (by omega)
      go_wp2_with fail
      have gk : (s.get! k).toNat = (s[k]'hlt).toNat := by rw [get!_eq s k hlt]
      refine (rplain_h _ _).mono ?_
      rintro e1 w1 ⟨rfl, rfl⟩
      obtain ⟨c, hc⟩ : ∃ c, (s[k]'hlt).toNat = c := ⟨_, rfl⟩
      have gc := Lib.hid (gk.trans hc)
      rw [hc]
      rcases Bool.eq_false_or_eq_true (plainC c) with hp | hp
      · have HK : Hid (∀ i, i < k + 1 → namec (s.get! i).toNat = true) := Lib.hid (fun i hi => by
          rcases (show i < k ∨ i = k by omega) with h | rfl
          · exact HG.out i h
          · rw [gc.out]; unfold namec; rw [hp]; rfl)
        rw [hp]
        clear hc gk
        go_wp2_with fail
        go_roundw
        case rel => exact ⟨k + 1, by omega, by go_num, by first | trivial | rfl, HK⟩
        case measure => simp [Lib.intOf]; omega
      · rw [hp]
        by_cases h45 : c = 45
        · have HK : Hid (∀ i, i < k + 1 → namec (s.get! i).toNat = true) := Lib.hid (fun i hi => by
            rcases (show i < k ∨ i = k by omega) with h | rfl
            · exact HG.out i h
            · rw [gc.out, h45]; decide)
          rw [h45] at hc
          clear gk
          go_wp2_with fail
          go_roundw
          case rel => exact ⟨k + 1, by omega, by go_num, by first | trivial | rfl, HK⟩
          case measure => simp [Lib.intOf]; omega
        · have hn : nameB s = false := by
            unfold nameB
            rw [okc_false (i := k) (by omega) hlt (by rw [gc.out]; unfold namec; rw [hp]; simpa using h45), Bool.and_false]
          have n45 : ((c : Int) != 45) = true := by simp; omega
          have HN := Lib.hid hn
          clear hn
          go_wp2_with fail
          go_ret
          exact ⟨by rw [HN.out]; rfl, rfl⟩
    · obtain rfl : k = s.size := by omega
      have dk : decide ((s.size : Int) < (s.size : Int)) = false := decide_eq_false (by omega)
      have ha := okc_true (x := namec) (s := s) (a := 0) (b := s.size) (fun i _ hi => HG.out i hi)
      have hn : nameB s = decide (0 < s.size ∧ s.size ≤ 40) := by unfold nameB; rw [ha, Bool.and_true]
      have HN := Lib.hid hn
      clear hn ha
      go_wp2_with fail
      all_goals go_ret
      all_goals (
        refine ⟨?_, rfl⟩
        rw [HN.out]
        show Ending.returned (Value.bool _) = Ending.returned (Value.bool _)
        congr 2
        rw [Bool.eq_iff_iff]
        simp only [Bool.or_eq_true, decide_eq_true_eq, Bool.false_eq_true, true_iff, false_iff]
        omega)
theorem tl_nil {s : ByteArray} (h : s.size = 0) : s.toList = [] := by rw [ByteArray.toList_eq]; exact List.eq_nil_of_length_eq_zero (by simpa using h)
theorem tl_ne {s : ByteArray} (h : 0 < s.size) : s.toList.isEmpty = false := by
  rw [ByteArray.toList_eq]
  cases hl : s.data.toList with
  | nil => have := congrArg List.length hl; have e : s.data.toList.length = s.size := rfl; simp only [List.length_nil] at this; omega
  | cons _ _ => rfl
theorem next_ascii {P : Program} {wr : World} {g : Nat} {s : ByteArray} {pos c : Nat} (hit : wr.heap[g]? = some (.stringIter s pos)) (h : pos < s.size) (hc : (s.get! pos).toNat = c) (ha : c < 128) :
    ∀ ty, (Instr.next (.pointer (some ⟨g, 0, none⟩)) true ty).run P wr = .ok (.tuple #[.bool true, .int .i64 pos, .int .i32 c]) (wr.iterAt g s (pos + 1)) := fun ty => by
  rw [Lib.run_next_any_at wr g s pos ty hit h, decode_ascii s pos h (by rw [← get!_eq s pos h, hc]; exact ha), ← get!_eq s pos h, hc]
theorem next_high {P : Program} {wr : World} {g : Nat} {s : ByteArray} {pos c : Nat} (hit : wr.heap[g]? = some (.stringIter s pos)) (h : pos < s.size) (hc : (s.get! pos).toNat = c) (ha : 128 ≤ c) :
    ∃ (r n : Nat), 128 ≤ r ∧ r ≤ 2147483647 ∧ ∀ ty, (Instr.next (.pointer (some ⟨g, 0, none⟩)) true ty).run P wr = .ok (.tuple #[.bool true, .int .i64 pos, .int .i32 r]) (wr.iterAt g s (pos + n)) := by
  refine ⟨(Utf8.decode s pos).1, (Utf8.decode s pos).2, (decode_high s pos h (by rw [← get!_eq s pos h, hc]; exact ha)).1, decode_le s pos, fun ty => Lib.run_next_any_at wr g s pos ty hit h⟩
theorem plain_high {r : Nat} (h : 128 ≤ r) : plainC r = false := by unfold plainC; simp; omega
set_option maxHeartbeats 2000000 in
set_option maxRecDepth 100000 in
theorem Name_h (s : ByteArray) (hs : s.size ≤ 100000) (w : World) : Calls Tryd.prog 33 #[.string s] w fun e w' => e = .returned (.bool (nameB s)) ∧ Below w.heap.size w w' := by
  go_enter Tryd.func33, Tryd.ntmps33
  go_wp2_with fail
  go_loopw [] (fun wr => ∃ pos : Nat, pos ≤ s.size ∧ wr.heap[w.heap.size]? = some (.stringIter s pos) ∧ Hid (Below w.heap.size w wr) ∧ Hid (∀ i, i < pos → namec (s.get! i).toNat = true)) (fun wr => s.size - wr.iterPos w.heap.size)
  case atStart => exact ⟨0, by omega, by simpa using World.iter_heap w s 0, Lib.hid ((Below.refl _ _).alloc (Nat.le_refl _) _), Lib.hid (fun i hi => by omega)⟩
  case round =>
    obtain ⟨k, hk, hit, HB, HG⟩ := hrel
    by_cases hlt : k < s.size
    · obtain ⟨c, hc⟩ : ∃ c, (s.get! k).toNat = c := ⟨_, rfl⟩
      have gc := Lib.hid hc
      have HB2 := Lib.hid (Lib.below_iterAt HB.out (k := w.heap.size) (Nat.le_refl _) s (k + 1))
      have hit2 := Lib.hid (Lib.iterAt_heap wr w.heap.size s k (k + 1) hit)
      by_cases ha : c < 128
      · have hnx := fun ty => next_ascii (P := Tryd.prog) hit hlt hc ha ty
        rcases Bool.eq_false_or_eq_true (plainC c) with hp | hp
        · have HK : Hid (∀ i, i < k + 1 → namec (s.get! i).toNat = true) := Lib.hid (fun i hi => by
            rcases (show i < k ∨ i = k by omega) with h | rfl
            · exact HG.out i h
            · rw [gc.out]; unfold namec; rw [hp]; rfl)
          clear hc
          go_wp2_with fail
          refine (plain_h _ _).mono ?_
          rintro e1 w1 ⟨rfl, rfl⟩
          rw [hp]
          go_wp2_with fail
          go_roundw
          case rel => exact ⟨k + 1, by omega, hit2.out, HB2, HK⟩
          case measure =>
            simp only [World.iterPos, hit2.out, hit]
            omega
        · by_cases h45 : c = 45
          · have HK : Hid (∀ i, i < k + 1 → namec (s.get! i).toNat = true) := Lib.hid (fun i hi => by
              rcases (show i < k ∨ i = k by omega) with h | rfl
              · exact HG.out i h
              · rw [gc.out, h45]; decide)
            subst h45
            clear hc
            go_wp2_with fail
            refine (plain_h _ _).mono ?_
            rintro e1 w1 ⟨rfl, rfl⟩
            rw [show ((45 : Nat) : Int) = 45 from rfl] at hp
            rw [hp]
            go_wp2_with fail
            go_roundw
            case rel => exact ⟨k + 1, by omega, hit2.out, HB2, HK⟩
            case measure =>
              simp only [World.iterPos, hit2.out, hit]
              omega
          · have HN : Hid (nameB s = false) := Lib.hid (by
              unfold nameB
              rw [okc_false (i := k) (by omega) hlt (by rw [gc.out]; unfold namec; rw [hp]; simpa using h45), Bool.and_false])
            have n45 : ((c : Int) != 45) = true := by simp; omega
            clear hc
            go_wp2_with fail
            refine (plain_h _ _).mono ?_
            rintro e1 w1 ⟨rfl, rfl⟩
            rw [hp]
            go_wp2_with fail
            go_ret
            exact ⟨by rw [HN.out]; rfl, HB2.out⟩
      · obtain ⟨r, n, r1, r2, hnx⟩ := next_high (P := Tryd.prog) hit hlt hc (by omega)
        have hp := plain_high r1
        have HN : Hid (nameB s = false) := Lib.hid (by
          unfold nameB
          rw [okc_false (i := k) (by omega) hlt (by rw [gc.out]; unfold namec; rw [plain_high (by omega)]; simp; omega), Bool.and_false])
        have HB3 := Lib.hid (Lib.below_iterAt HB.out (k := w.heap.size) (Nat.le_refl _) s (k + n))
        have n45 : ((r : Int) != 45) = true := by simp; omega
        clear hc
        go_wp2_with fail
        refine (plain_h _ _).mono ?_
        rintro e1 w1 ⟨rfl, rfl⟩
        rw [hp]
        go_wp2_with fail
        go_ret
        exact ⟨by rw [HN.out]; rfl, HB3.out⟩
    · obtain rfl : k = s.size := by omega
      have hnx : ∀ ty, (Instr.next (.pointer (some ⟨w.heap.size, 0, none⟩)) true ty).run Tryd.prog wr = _ := fun ty => Lib.run_next_end_at wr w.heap.size s s.size ty hit hlt
      have ha := okc_true (x := namec) (s := s) (a := 0) (b := s.size) (fun i _ hi => HG.out i hi)
      have HN : Hid (nameB s = decide (0 < s.size ∧ s.size ≤ 40)) := Lib.hid (by unfold nameB; rw [ha, Bool.and_true])
      clear ha
      rcases Nat.eq_zero_or_pos s.size with h0 | h0
      · have e0 := tl_nil h0
        have n0 : s.toList.isEmpty = true := by rw [e0]; rfl
        go_wp2_with fail
        go_ret
        refine ⟨?_, HB.out⟩
        rw [HN.out]
        show Ending.returned (Value.bool _) = Ending.returned (Value.bool _)
        congr 2
        rw [Bool.eq_iff_iff]
        simp only [Bool.or_eq_true, decide_eq_true_eq, Bool.false_eq_true, true_iff, false_iff]
        omega
      · have n0 := tl_ne h0
        go_wp2_with fail
        all_goals go_ret
        all_goals (
          refine ⟨?_, HB.out⟩
          rw [HN.out]
          show Ending.returned (Value.bool _) = Ending.returned (Value.bool _)
          congr 2
          rw [Bool.eq_iff_iff]
          simp only [Bool.or_eq_true, decide_eq_true_eq, Bool.false_eq_true, true_iff, false_iff]
          omega)
end Go.Proofs.YtdekdcleeignoaaDoor.Wd
