/-
  Words: numbers, on both sides. No condition but those told.
-/
import Derived.Test.YtdekdcleeignoaaDoorWdn
set_option linter.unusedVariables false
set_option linter.unusedSimpArgs false
namespace Go.Proofs.YtdekdcleeignoaaDoor.Wd
open Go.RowKit Go.Proofs
def digc (c : Nat) : Bool := decide (48 ≤ c ∧ c ≤ 57)
def vals (s : ByteArray) : Nat → Nat
  | 0 => 0
  | k + 1 => 10 * vals s k + ((s.get! k).toNat - 48)
theorem vals_mono (s : ByteArray) (k : Nat) : ∀ j, vals s k ≤ vals s (k + j)
  | 0 => Nat.le_refl _
  | j + 1 => by
    have := vals_mono s k j
    show vals s k ≤ 10 * vals s (k + j) + _
    omega
theorem vals_le (s : ByteArray) {k n : Nat} (h : k ≤ n) : vals s k ≤ vals s n := by
  obtain ⟨j, rfl⟩ : ∃ j, n = k + j := ⟨n - k, by omega⟩
  exact vals_mono s k j
theorem vals_lt (s : ByteArray) : ∀ k, (∀ i, i < k → digc (s.get! i).toNat = true) → vals s k < 10 ^ k
  | 0, _ => Nat.zero_lt_one
  | k + 1, h => by
    have h1 := vals_lt s k (fun i hi => h i (by omega))
    have h2 := h k (by omega)
    unfold digc at h2
    simp only [decide_eq_true_eq] at h2
    show 10 * vals s k + _ < 10 ^ (k + 1)
    rw [Nat.pow_succ]
    omega
theorem vals_ge (s : ByteArray) (h : 49 ≤ (s.get! 0).toNat) : ∀ k, 10 ^ k ≤ vals s (k + 1)
  | 0 => by
    have e : vals s 1 = (s.get! 0).toNat - 48 := by simp [vals]
    rw [e]
    omega
  | k + 1 => by
    have := vals_ge s h k
    show 10 ^ (k + 1) ≤ 10 * vals s (k + 1) + _
    rw [Nat.pow_succ]
    omega
def numR (s : ByteArray) (most : Int) : Int := if s.size = 0 ∨ most < 0 ∨ (1 < s.size ∧ (s.get! 0).toNat = 48) ∨ okc digc s 0 s.size = false ∨ most < (vals s s.size : Int) then -1 else (vals s s.size : Int)
set_option maxHeartbeats 4000000 in
set_option maxRecDepth 100000 in
theorem Number_h (s : ByteArray) (hs : s.size ≤ 100000) (most : Int) (hm0 : -9223372036854775808 ≤ most) (hm1 : most ≤ 9223372036854775807) (w : World) : Calls Tryd.prog 28 #[.string s, .int .i64 most] w fun e w' => e = .returned (.int .i64 (numR s most)) ∧ Below w.heap.size w w' := by
  have M0 := Lib.hid hm0
  have M1 := Lib.hid hm1
  clear hm0 hm1
  go_enter Tryd.func28, Tryd.ntmps28
  go_wp2_with fail
  go_loopw [5] (fun v wr => ∃ pos n : Nat, pos ≤ s.size ∧ v = .int .i64 (n : Int) ∧ n = vals s pos ∧ Hid (0 < pos → 0 ≤ most ∧ (n : Int) ≤ most) ∧ wr.heap[w.heap.size]? = some (.stringIter s pos) ∧ Hid (Below w.heap.size w wr) ∧ Hid (∀ i, i < pos → digc (s.get! i).toNat = true)) (fun _ wr => s.size - wr.iterPos w.heap.size)
  case atStart => exact ⟨0, 0, by omega, rfl, rfl, Lib.hid (fun h => by omega), by simpa using World.iter_heap w s 0, Lib.hid ((Below.refl _ _).alloc (Nat.le_refl _) _), Lib.hid (fun i hi => by omega)⟩
  case round =>
    obtain ⟨k, n, hk, rfl, hnv, HM, hit, HB, HG⟩ := hrel
    have HV := Lib.hid hnv
    have hit0 := Lib.hid hit
    by_cases hlt : k < s.size
    · obtain ⟨c, hc⟩ : ∃ c, (s.get! k).toNat = c := ⟨_, rfl⟩
      have gc := Lib.hid hc
      have HB2 := Lib.hid (Lib.below_iterAt HB.out (k := w.heap.size) (Nat.le_refl _) s (k + 1))
      have hit2 := Lib.hid (Lib.iterAt_heap wr w.heap.size s k (k + 1) hit)
      by_cases ha : 128 ≤ c
      · obtain ⟨r, nn, r1, r2, hnx⟩ := next_high (P := Tryd.prog) hit hlt hc (by omega)
        have HN : Hid (numR s most = -1) := Lib.hid (by
          unfold numR
          rw [if_pos]
          exact .inr (.inr (.inr (.inl (okc_false (i := k) (by omega) hlt (by rw [gc.out]; unfold digc; simp; omega))))))
        have HB3 := Lib.hid (Lib.below_iterAt HB.out (k := w.heap.size) (Nat.le_refl _) s (k + nn))
        have d1 : decide ((r : Int) < 48) = false := decide_eq_false (by omega)
        have d2 : decide ((57 : Int) < (r : Int)) = true := decide_eq_true (by omega)
        clear hc hnv
        go_wp2_with fail
        go_ret
        exact ⟨by rw [HN.out]; rfl, HB3.out⟩
      have hnx := fun ty => next_ascii (P := Tryd.prog) hit hlt hc (by omega) ty
      by_cases hdg : 48 ≤ c ∧ c ≤ 57
      · obtain ⟨d, rfl⟩ : ∃ d, c = d + 48 := ⟨c - 48, by omega⟩
        have d1 : decide (((d + 48 : Nat) : Int) < 48) = false := decide_eq_false (by omega)
        have d2 : decide ((57 : Int) < ((d + 48 : Nat) : Int)) = false := decide_eq_false (by omega)
        have d9 : d ≤ 9 := by omega
        have VS : Hid (vals s (k + 1) = 10 * n + d) := Lib.hid (by show 10 * vals s k + _ = _; rw [gc.out, hnv]; omega)
        have W1 : IntKind.i32.wrap (((d + 48 : Nat) : Int) - 48) = (d : Int) := by rw [IntKind.wrap_i32]; omega
        have W2 : IntKind.i64.wrap (d : Int) = (d : Int) := IntWalk.i64_in _ (by omega)
        obtain ⟨C, hC⟩ : ∃ C, ((d + 48 : Nat) : Int) = C := ⟨_, rfl⟩
        rw [hC] at d1 d2 W1 hnx
        clear hc hnv hC
        by_cases hdm : most < (d : Int)
        · have d3 : decide (most < (d : Int)) = true := decide_eq_true hdm
          have HN : Hid (numR s most = -1) := Lib.hid (by
            unfold numR
            rw [if_pos]
            have := vals_le s (show k + 1 ≤ s.size by omega)
            rw [VS.out] at this
            exact .inr (.inr (.inr (.inr (by omega)))))
          go_wp2_with fail
          go_ret
          exact ⟨by rw [HN.out]; rfl, HB2.out⟩
        have d3 : decide (most < (d : Int)) = false := decide_eq_false hdm
        obtain ⟨md, hmd⟩ : ∃ md : Nat, most - (d : Int) = (md : Int) := ⟨(most - d).toNat, by omega⟩
        have W3 : IntKind.i64.wrap (most - (d : Int)) = (md : Int) := by
          have := M1.out
          rw [hmd]
          exact IntWalk.i64_in _ (by omega)
        have Q : Int.tdiv (md : Int) 10 = ((md / 10 : Nat) : Int) := by rw [Int.tdiv_eq_ediv_of_nonneg (by omega)]; omega
        obtain ⟨q, hq⟩ : ∃ q, md / 10 = q := ⟨_, rfl⟩
        rw [hq] at Q
        have HQ := Lib.hid hq
        have HMD := Lib.hid hmd
        have W4 : IntKind.i64.wrap (q : Int) = (q : Int) := IntWalk.i64_in _ (by have := M1.out; omega)
        clear hq hmd
        by_cases hov : q < n
        · have d4 : decide ((q : Int) < (n : Int)) = true := decide_eq_true (by omega)
          have HN : Hid (numR s most = -1) := Lib.hid (by
            unfold numR
            rw [if_pos]
            have := vals_le s (show k + 1 ≤ s.size by omega)
            rw [VS.out] at this
            have h1 := HQ.out
            have h2 := HMD.out
            exact .inr (.inr (.inr (.inr (by omega)))))
          go_wp2_with fail
          go_ret
          exact ⟨by rw [HN.out]; rfl, HB2.out⟩
        · have d4 : decide ((q : Int) < (n : Int)) = false := decide_eq_false (by omega)
          obtain ⟨n1, hn1⟩ : ∃ n1, 10 * n + d = n1 := ⟨_, rfl⟩
          have nb : (n1 : Int) ≤ most := by
            have h1 := HQ.out
            have h2 := HMD.out
            omega
          have W5 : IntKind.i64.wrap (10 * (n : Int)) = ((10 * n : Nat) : Int) := by rw [show 10 * (n : Int) = ((10 * n : Nat) : Int) by omega]; exact IntWalk.i64_in _ (by have := M1.out; omega)
          obtain ⟨n0, hn0⟩ : ∃ n0, 10 * n = n0 := ⟨_, rfl⟩
          rw [hn0] at W5 hn1
          have W6 : IntKind.i64.wrap ((n0 : Int) + (d : Int)) = (n1 : Int) := by rw [show (n0 : Int) + (d : Int) = (n1 : Int) by omega]; exact IntWalk.i64_in _ (by have := M1.out; omega)
          have HK : Hid (∀ i, i < k + 1 → digc (s.get! i).toNat = true) := Lib.hid (fun i hi => by
            rcases (show i < k ∨ i = k by omega) with h | rfl
            · exact HG.out i h
            · rw [gc.out]; unfold digc; simp; omega)
          have VN : Hid (n1 = vals s (k + 1)) := Lib.hid (by rw [VS.out]; omega)
          have NB := Lib.hid nb
          clear hn0 hn1 nb
          go_wp2_with fail
          go_roundw
          case rel => exact ⟨k + 1, n1, by omega, rfl, VN.out, Lib.hid (fun _ => ⟨by have := NB.out; omega, NB.out⟩), hit2.out, HB2, HK⟩
          case measure =>
            simp only [World.iterPos, hit2.out, hit0.out]
            omega
      · have HN : Hid (numR s most = -1) := Lib.hid (by
          unfold numR
          rw [if_pos]
          exact .inr (.inr (.inr (.inl (okc_false (i := k) (by omega) hlt (by rw [gc.out]; unfold digc; simpa using hdg))))))
        clear hc hnv
        rcases (show c < 48 ∨ 57 < c by omega) with h | h
        · have d1 : decide ((c : Int) < 48) = true := decide_eq_true (by omega)
          go_wp2_with fail
          go_ret
          exact ⟨by rw [HN.out]; rfl, HB2.out⟩
        · have d1 : decide ((c : Int) < 48) = false := decide_eq_false (by omega)
          have d2 : decide ((57 : Int) < (c : Int)) = true := decide_eq_true (by omega)
          go_wp2_with fail
          go_ret
          exact ⟨by rw [HN.out]; rfl, HB2.out⟩
    · obtain rfl : k = s.size := by omega
      have hnx : ∀ ty, (Instr.next (.pointer (some ⟨w.heap.size, 0, none⟩)) true ty).run Tryd.prog wr = _ := fun ty => Lib.run_next_end_at wr w.heap.size s s.size ty hit hlt
      have HA := Lib.hid (okc_true (x := digc) (s := s) (a := 0) (b := s.size) (fun i _ hi => HG.out i hi))
      clear hnv
      rcases Nat.eq_zero_or_pos s.size with h0 | h0
      · have e0 := tl_nil h0
        have n0 : s.toList.isEmpty = true := by rw [e0]; rfl
        have HN : Hid (numR s most = -1) := Lib.hid (by unfold numR; rw [if_pos (.inl h0)])
        clear h0
        go_wp2_with fail
        go_ret
        exact ⟨by rw [HN.out]; rfl, HB.out⟩
      have n0 := tl_ne h0
      have hmo := HM.out h0
      have g0 := get!_eq s 0 h0
      obtain ⟨z, hz⟩ : ∃ z, (s.get! 0).toNat = z := ⟨_, rfl⟩
      have hz2 : (s[0]'h0).toNat = z := by rw [← g0]; exact hz
      have HZ := Lib.hid hz
      have dm : decide (most < 0) = false := decide_eq_false (by omega)
      by_cases h1 : 1 < s.size
      · have ds : decide ((1 : Int) < (s.size : Int)) = true := decide_eq_true (by omega)
        by_cases hz0 : z = 48
        · subst hz0
          have HN : Hid (numR s most = -1) := Lib.hid (by unfold numR; rw [if_pos (.inr (.inr (.inl ⟨h1, HZ.out⟩)))])
          have bz : (((s[0]'h0).toNat : Int) == 48) = true := by rw [hz2]; rfl
          clear hz hz2 g0
          go_wp2_with fail
          all_goals go_ret
          all_goals exact ⟨by rw [HN.out]; rfl, HB.out⟩
        · have HN : Hid (numR s most = (n : Int)) := Lib.hid (by
            unfold numR
            rw [if_neg, HV.out]
            rintro (h | h | h | h | h)
            · omega
            · omega
            · exact hz0 (HZ.out.symm.trans h.2)
            · rw [HA.out] at h; cases h
            · have := HV.out; omega)
          have bz : (((s[0]'h0).toNat : Int) == 48) = false := by rw [hz2, beq_eq_false_iff_ne]; omega
          have bz2 : ¬ ((s[0]'h0).toNat : Int) = 48 := by rw [hz2]; omega
          clear hz hz2 g0
          go_wp2_with fail
          all_goals go_ret
          all_goals exact ⟨by rw [HN.out]; rfl, HB.out⟩
      · have ds : decide ((1 : Int) < (s.size : Int)) = false := decide_eq_false (by omega)
        have HN : Hid (numR s most = (n : Int)) := Lib.hid (by
          unfold numR
          rw [if_neg, HV.out]
          rintro (h | h | h | h | h)
          · omega
          · omega
          · omega
          · rw [HA.out] at h; cases h
          · have := HV.out; omega)
        clear hz hz2 g0
        go_wp2_with fail
        all_goals go_ret
        all_goals exact ⟨by rw [HN.out]; rfl, HB.out⟩
set_option maxHeartbeats 4000000 in
set_option maxRecDepth 100000 in
theorem rNumber_h (s : ByteArray) (hs : s.size ≤ 100000) (most : Int) (hm0 : -9223372036854775808 ≤ most) (hm1 : most ≤ 9223372036854775807) (w : World) : Calls Tryd.prog 29 #[.string s, .int .i64 most] w fun e w' => e = .returned (.int .i64 (numR s most)) ∧ w' = w := by
  have M0 := Lib.hid hm0
  have M1 := Lib.hid hm1
  clear hm0 hm1
  rcases Nat.eq_zero_or_pos s.size with h0 | h0
  · have e0 := tl_nil h0
    have n0 : s.toList.isEmpty = true := by rw [e0]; rfl
    have HN : Hid (numR s most = -1) := Lib.hid (by unfold numR; rw [if_pos (.inl h0)])
    clear h0
    go_enter Tryd.func29, Tryd.ntmps29
    go_wp2_with fail
    go_ret
    exact ⟨by rw [HN.out]; rfl, rfl⟩
  have n0 := tl_ne h0
  have g0 := get!_eq s 0 h0
  obtain ⟨z, hz⟩ : ∃ z, (s.get! 0).toNat = z := ⟨_, rfl⟩
  have hz2 : (s[0]'h0).toNat = z := by rw [← g0]; exact hz
  have HZ := Lib.hid hz
  by_cases hld : 1 < s.size ∧ z = 48
  · have ds : decide ((1 : Int) < (s.size : Int)) = true := decide_eq_true (by omega)
    have HN : Hid (numR s most = -1) := Lib.hid (by unfold numR; rw [if_pos (.inr (.inr (.inl ⟨hld.1, HZ.out.trans hld.2⟩)))])
    have bz : (((s[0]'h0).toNat : Int) == 48) = true := by rw [hz2, hld.2]; rfl
    clear hz hz2 g0 hld
    go_enter Tryd.func29, Tryd.ntmps29
    go_wp2_with fail
    all_goals go_ret
    all_goals exact ⟨by rw [HN.out]; rfl, rfl⟩
  have NLD := Lib.hid hld
  by_cases h1 : ¬ 1 < s.size
  · clear g0
    have ds : decide ((1 : Int) < (s.size : Int)) = false := decide_eq_false (by omega)
    have d19 : decide ((19 : Int) < (s.size : Int)) = false := decide_eq_false (by omega)
    clear hz hz2 hld
    by_cases hmn : most < 0
    · have dm : decide (most < 0) = true := decide_eq_true hmn
      have HN : Hid (numR s most = -1) := Lib.hid (by unfold numR; rw [if_pos (.inr (.inl hmn))])
      go_enter Tryd.func29, Tryd.ntmps29
      go_wp2_with fail
      all_goals go_ret
      all_goals exact ⟨by rw [HN.out]; rfl, rfl⟩
    have dm : decide (most < 0) = false := decide_eq_false hmn
    go_enter Tryd.func29, Tryd.ntmps29
    go_wp2_with fail
    go_loopw [5, 6] (fun u v wr => ∃ k n : Nat, k ≤ s.size ∧ u = .int .u64 (n : Int) ∧ v = .int .i64 (k : Int) ∧ Hid (n = vals s k) ∧ wr = w ∧ Hid (∀ i, i < k → digc (s.get! i).toNat = true)) (fun _ v _ => s.size - (Lib.intOf v).toNat)
    case atStart => exact ⟨0, 0, by omega, rfl, rfl, Lib.hid rfl, by first | trivial | rfl, Lib.hid (fun i hi => by omega)⟩
    case round =>
      obtain ⟨k, n, hk, rfl, rfl, HV, rfl, HG⟩ := hrel
      have nlt := vals_lt s k HG.out
      rw [← HV.out] at nlt
      have n19 : n < 10000000000000000000 := Nat.lt_of_lt_of_le nlt (Nat.le_trans (Nat.pow_le_pow_right (by decide) (show k ≤ 19 by omega)) (by decide))
      clear nlt
      by_cases hlt : k < s.size
      · have dk : decide ((k : Int) < (s.size : Int)) = true := decide_eq_true (by omega)
        have gk : (s.get! k).toNat = (s[k]'hlt).toNat := by rw [get!_eq s k hlt]
        obtain ⟨c, hc⟩ : ∃ c, (s[k]'hlt).toNat = c := ⟨_, rfl⟩
        have gc := Lib.hid (gk.trans hc)
        by_cases hdg : 48 ≤ c ∧ c ≤ 57
        · obtain ⟨d, hcd⟩ : ∃ d, c = d + 48 := ⟨c - 48, by omega⟩
          have d9 : d ≤ 9 := by omega
          obtain ⟨C, hC⟩ : ∃ C : Int, (c : Int) = C := ⟨_, rfl⟩
          have d1 : decide (C < 48) = false := decide_eq_false (by omega)
          have d2 : decide ((57 : Int) < C) = false := decide_eq_false (by omega)
          have W1 : IntKind.u8.wrap (C - 48) = (d : Int) := by rw [IntKind.wrap_u8]; omega
          have W2 : IntKind.u64.wrap (d : Int) = (d : Int) := IntWalk.u64_in _ (by omega)
          obtain ⟨n0, hn0⟩ : ∃ n0, 10 * n = n0 := ⟨_, rfl⟩
          obtain ⟨n1, hn1⟩ : ∃ n1, n0 + d = n1 := ⟨_, rfl⟩
          have nn : n1 < 18446744073709551616 := by
            have h1 := vals_lt s (k + 1) (fun i hi => by
              rcases (show i < k ∨ i = k by omega) with h | rfl
              · exact HG.out i h
              · rw [gc.out]; unfold digc; simpa using hdg)
            have h2 : vals s (k + 1) = n1 := by show 10 * vals s k + _ = _; rw [gc.out, ← HV.out]; omega
            rw [h2] at h1
            have h3 := Nat.lt_of_lt_of_le h1 (Nat.le_trans (Nat.pow_le_pow_right (by decide) (show k + 1 ≤ 19 by omega)) (show 10 ^ 19 ≤ 18446744073709551615 by decide))
            omega
          have VN : Hid (n1 = vals s (k + 1)) := Lib.hid (by show _ = 10 * vals s k + _; rw [gc.out, ← HV.out]; omega)
          have W5 : IntKind.u64.wrap (10 * (n : Int)) = (n0 : Int) := by rw [show 10 * (n : Int) = (n0 : Int) by omega]; exact IntWalk.u64_in _ (by omega)
          have W6 : IntKind.u64.wrap ((n0 : Int) + (d : Int)) = (n1 : Int) := by rw [show (n0 : Int) + (d : Int) = (n1 : Int) by omega]; exact IntWalk.u64_in _ (by omega)
          have HK : Hid (∀ i, i < k + 1 → digc (s.get! i).toNat = true) := Lib.hid (fun i hi => by
            rcases (show i < k ∨ i = k by omega) with h | rfl
            · exact HG.out i h
            · rw [gc.out]; unfold digc; simpa using hdg)
          have cC : ((s[k]'hlt).toNat : Int) = C := by rw [hc]; exact hC
          clear hn0 hn1 hc gk hC hcd hdg nn n19
          go_wp2_with fail
          go_roundw
          case rel => exact ⟨k + 1, n1, by omega, rfl, by go_num, VN, by first | trivial | rfl, HK⟩
          case measure => simp [Lib.intOf]; omega
        · have HN : Hid (numR s most = -1) := Lib.hid (by
            unfold numR
            rw [if_pos]
            exact .inr (.inr (.inr (.inl (okc_false (i := k) (by omega) hlt (by rw [gc.out]; unfold digc; simpa using hdg))))))
          obtain ⟨C, hC⟩ : ∃ C : Int, (c : Int) = C := ⟨_, rfl⟩
          have cC : ((s[k]'hlt).toNat : Int) = C := by rw [hc]; exact hC
          rcases (show C < 48 ∨ 57 < C by omega) with h | h
          · have d1 : decide (C < 48) = true := decide_eq_true h
            clear hc gk hC hdg n19
            go_wp2_with fail
            go_ret
            exact ⟨by rw [HN.out]; rfl, by first | trivial | rfl⟩
          · have d1 : decide (C < 48) = false := decide_eq_false (by omega)
            have d2 : decide ((57 : Int) < C) = true := decide_eq_true h
            clear hc gk hC hdg n19
            go_wp2_with fail
            go_ret
            exact ⟨by rw [HN.out]; rfl, by first | trivial | rfl⟩
      · obtain rfl : k = s.size := by omega
        have dk : decide ((s.size : Int) < (s.size : Int)) = false := decide_eq_false (by omega)
        have HA := Lib.hid (okc_true (x := digc) (s := s) (a := 0) (b := s.size) (fun i _ hi => HG.out i hi))
        have W7 : IntKind.u64.wrap most = most := IntWalk.u64_in _ (by have := M1.out; omega)
        by_cases hgt : most < (n : Int)
        · have d4 : decide (most < (n : Int)) = true := decide_eq_true hgt
          have HN : Hid (numR s most = -1) := Lib.hid (by unfold numR; rw [if_pos (.inr (.inr (.inr (.inr (by rw [← HV.out]; exact hgt)))))])
          clear n19
          go_wp2_with fail
          go_ret
          exact ⟨by rw [HN.out]; rfl, by first | trivial | rfl⟩
        · have d4 : decide (most < (n : Int)) = false := decide_eq_false hgt
          have W8 : IntKind.i64.wrap (n : Int) = (n : Int) := IntWalk.i64_in _ (by have := M1.out; omega)
          have HN : Hid (numR s most = (n : Int)) := Lib.hid (by
            unfold numR
            rw [if_neg, HV.out]
            rintro (h | h | h | h | h)
            · omega
            · omega
            · exact NLD.out ⟨h.1, HZ.out.symm.trans h.2⟩
            · rw [HA.out] at h; cases h
            · have := HV.out; omega)
          clear n19
          go_wp2_with fail
          go_ret
          exact ⟨by rw [HN.out]; rfl, by first | trivial | rfl⟩
  · clear g0
    have ds : decide ((1 : Int) < (s.size : Int)) = true := decide_eq_true (by omega)
    have bz : (((s[0]'h0).toNat : Int) == 48) = false := by rw [hz2, beq_eq_false_iff_ne]; intro h; exact hld ⟨by omega, by omega⟩
    have bz2 : ¬ ((s[0]'h0).toNat : Int) = 48 := by rw [hz2]; intro h; exact hld ⟨by omega, by omega⟩
    by_cases h19 : 19 < s.size
    · have d19 : decide ((19 : Int) < (s.size : Int)) = true := decide_eq_true (by omega)
      have HN : Hid (numR s most = -1) := Lib.hid (by
        unfold numR
        rw [if_pos]
        by_cases ho : okc digc s 0 s.size = false
        · exact .inr (.inr (.inr (.inl ho)))
        · have hz48 : 49 ≤ z := by
            rcases Nat.lt_or_ge z 49 with h | h
            · exfalso
              by_cases h48 : z = 48
              · exact hld ⟨by omega, h48⟩
              · exact ho (okc_false (i := 0) (by omega) h0 (by rw [hz]; unfold digc; simp; omega))
            · exact h
          have h2 := vals_ge s (by omega : 49 ≤ (s.get! 0).toNat) (s.size - 1)
          rw [show s.size - 1 + 1 = s.size by omega] at h2
          have h3 : 10 ^ 19 ≤ 10 ^ (s.size - 1) := Nat.pow_le_pow_right (by decide) (by omega)
          have h4 : (10 : Nat) ^ 19 = 10000000000000000000 := by decide
          have h5 := M1.out
          exact .inr (.inr (.inr (.inr (by omega)))))
      clear hz hz2 hld h19
      go_enter Tryd.func29, Tryd.ntmps29
      go_wp2_with fail
      all_goals go_ret
      all_goals exact ⟨by rw [HN.out]; rfl, rfl⟩
    have d19 : decide ((19 : Int) < (s.size : Int)) = false := decide_eq_false (by omega)
    clear hz hz2 hld
    by_cases hmn : most < 0
    · have dm : decide (most < 0) = true := decide_eq_true hmn
      have HN : Hid (numR s most = -1) := Lib.hid (by unfold numR; rw [if_pos (.inr (.inl hmn))])
      go_enter Tryd.func29, Tryd.ntmps29
      go_wp2_with fail
      all_goals go_ret
      all_goals exact ⟨by rw [HN.out]; rfl, rfl⟩
    have dm : decide (most < 0) = false := decide_eq_false hmn
    go_enter Tryd.func29, Tryd.ntmps29
    go_wp2_with fail
    go_loopw [5, 6] (fun u v wr => ∃ k n : Nat, k ≤ s.size ∧ u = .int .u64 (n : Int) ∧ v = .int .i64 (k : Int) ∧ Hid (n = vals s k) ∧ wr = w ∧ Hid (∀ i, i < k → digc (s.get! i).toNat = true)) (fun _ v _ => s.size - (Lib.intOf v).toNat)
    case atStart => exact ⟨0, 0, by omega, rfl, rfl, Lib.hid rfl, by first | trivial | rfl, Lib.hid (fun i hi => by omega)⟩
    case round =>
      obtain ⟨k, n, hk, rfl, rfl, HV, rfl, HG⟩ := hrel
      have nlt := vals_lt s k HG.out
      rw [← HV.out] at nlt
      have n19 : n < 10000000000000000000 := Nat.lt_of_lt_of_le nlt (Nat.le_trans (Nat.pow_le_pow_right (by decide) (show k ≤ 19 by omega)) (by decide))
      clear nlt
      by_cases hlt : k < s.size
      · have dk : decide ((k : Int) < (s.size : Int)) = true := decide_eq_true (by omega)
        have gk : (s.get! k).toNat = (s[k]'hlt).toNat := by rw [get!_eq s k hlt]
        obtain ⟨c, hc⟩ : ∃ c, (s[k]'hlt).toNat = c := ⟨_, rfl⟩
        have gc := Lib.hid (gk.trans hc)
        by_cases hdg : 48 ≤ c ∧ c ≤ 57
        · obtain ⟨d, hcd⟩ : ∃ d, c = d + 48 := ⟨c - 48, by omega⟩
          have d9 : d ≤ 9 := by omega
          obtain ⟨C, hC⟩ : ∃ C : Int, (c : Int) = C := ⟨_, rfl⟩
          have d1 : decide (C < 48) = false := decide_eq_false (by omega)
          have d2 : decide ((57 : Int) < C) = false := decide_eq_false (by omega)
          have W1 : IntKind.u8.wrap (C - 48) = (d : Int) := by rw [IntKind.wrap_u8]; omega
          have W2 : IntKind.u64.wrap (d : Int) = (d : Int) := IntWalk.u64_in _ (by omega)
          obtain ⟨n0, hn0⟩ : ∃ n0, 10 * n = n0 := ⟨_, rfl⟩
          obtain ⟨n1, hn1⟩ : ∃ n1, n0 + d = n1 := ⟨_, rfl⟩
          have nn : n1 < 18446744073709551616 := by
            have h1 := vals_lt s (k + 1) (fun i hi => by
              rcases (show i < k ∨ i = k by omega) with h | rfl
              · exact HG.out i h
              · rw [gc.out]; unfold digc; simpa using hdg)
            have h2 : vals s (k + 1) = n1 := by show 10 * vals s k + _ = _; rw [gc.out, ← HV.out]; omega
            rw [h2] at h1
            have h3 := Nat.lt_of_lt_of_le h1 (Nat.le_trans (Nat.pow_le_pow_right (by decide) (show k + 1 ≤ 19 by omega)) (show 10 ^ 19 ≤ 18446744073709551615 by decide))
            omega
          have VN : Hid (n1 = vals s (k + 1)) := Lib.hid (by show _ = 10 * vals s k + _; rw [gc.out, ← HV.out]; omega)
          have W5 : IntKind.u64.wrap (10 * (n : Int)) = (n0 : Int) := by rw [show 10 * (n : Int) = (n0 : Int) by omega]; exact IntWalk.u64_in _ (by omega)
          have W6 : IntKind.u64.wrap ((n0 : Int) + (d : Int)) = (n1 : Int) := by rw [show (n0 : Int) + (d : Int) = (n1 : Int) by omega]; exact IntWalk.u64_in _ (by omega)
          have HK : Hid (∀ i, i < k + 1 → digc (s.get! i).toNat = true) := Lib.hid (fun i hi => by
            rcases (show i < k ∨ i = k by omega) with h | rfl
            · exact HG.out i h
            · rw [gc.out]; unfold digc; simpa using hdg)
          have cC : ((s[k]'hlt).toNat : Int) = C := by rw [hc]; exact hC
          clear hn0 hn1 hc gk hC hcd hdg nn n19
          go_wp2_with fail
          go_roundw
          case rel => exact ⟨k + 1, n1, by omega, rfl, by go_num, VN, by first | trivial | rfl, HK⟩
          case measure => simp [Lib.intOf]; omega
        · have HN : Hid (numR s most = -1) := Lib.hid (by
            unfold numR
            rw [if_pos]
            exact .inr (.inr (.inr (.inl (okc_false (i := k) (by omega) hlt (by rw [gc.out]; unfold digc; simpa using hdg))))))
          obtain ⟨C, hC⟩ : ∃ C : Int, (c : Int) = C := ⟨_, rfl⟩
          have cC : ((s[k]'hlt).toNat : Int) = C := by rw [hc]; exact hC
          rcases (show C < 48 ∨ 57 < C by omega) with h | h
          · have d1 : decide (C < 48) = true := decide_eq_true h
            clear hc gk hC hdg n19
            go_wp2_with fail
            go_ret
            exact ⟨by rw [HN.out]; rfl, by first | trivial | rfl⟩
          · have d1 : decide (C < 48) = false := decide_eq_false (by omega)
            have d2 : decide ((57 : Int) < C) = true := decide_eq_true h
            clear hc gk hC hdg n19
            go_wp2_with fail
            go_ret
            exact ⟨by rw [HN.out]; rfl, by first | trivial | rfl⟩
      · obtain rfl : k = s.size := by omega
        have dk : decide ((s.size : Int) < (s.size : Int)) = false := decide_eq_false (by omega)
        have HA := Lib.hid (okc_true (x := digc) (s := s) (a := 0) (b := s.size) (fun i _ hi => HG.out i hi))
        have W7 : IntKind.u64.wrap most = most := IntWalk.u64_in _ (by have := M1.out; omega)
        by_cases hgt : most < (n : Int)
        · have d4 : decide (most < (n : Int)) = true := decide_eq_true hgt
          have HN : Hid (numR s most = -1) := Lib.hid (by unfold numR; rw [if_pos (.inr (.inr (.inr (.inr (by rw [← HV.out]; exact hgt)))))])
          clear n19
          go_wp2_with fail
          go_ret
          exact ⟨by rw [HN.out]; rfl, by first | trivial | rfl⟩
        · have d4 : decide (most < (n : Int)) = false := decide_eq_false hgt
          have W8 : IntKind.i64.wrap (n : Int) = (n : Int) := IntWalk.i64_in _ (by have := M1.out; omega)
          have HN : Hid (numR s most = (n : Int)) := Lib.hid (by
            unfold numR
            rw [if_neg, HV.out]
            rintro (h | h | h | h | h)
            · omega
            · omega
            · exact NLD.out ⟨h.1, HZ.out.symm.trans h.2⟩
            · rw [HA.out] at h; cases h
            · have := HV.out; omega)
          clear n19
          go_wp2_with fail
          go_ret
          exact ⟨by rw [HN.out]; rfl, by first | trivial | rfl⟩
end Go.Proofs.YtdekdcleeignoaaDoor.Wd
