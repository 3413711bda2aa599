/-
  The walks of the document's encoder: Symbol, Bits, Bytes; no condition but those told.
-/
import Derived.Test.YtlbjoflmfboeeaaRep
set_option linter.unusedVariables false
set_option linter.unusedSimpArgs false
namespace Go.Proofs.Ytlbjoflmfboeeaa.Enc
open Go.RowKit Go.Proofs.Ytlbjoflmfboeeaa Go.Proofs.YtlbjoflmfboeeaaW.PrintWords Go.Proofs.Ytlbjoflmfboeeaa.Dig

def rsymS (R : RSt) (L : List Int) (k : Nat) : RSt := rputS R (Mdl.lsum (L.take k)) (L.getD k 0) (Mdl.lsum L)
def rbitsS (R : RSt) (n : Int) (w : Nat) : RSt :=
  if w = 0 then R else if w ≤ 12 then rputS R (n % 2 ^ w) 1 (2 ^ w) else rputS (rputS R (n / 2 ^ (w - 12) % 4096) 1 4096) (n % 2 ^ (w - 12)) 1 (2 ^ (w - 12))
theorem rbits_step (t : RSt) (n : Int) (j i : Nat) (hi : j = i + 12) (h0 : 0 < i) (h12 : i ≤ 12) : rbitsS t n j = rbitsS (rputS t (n / 2 ^ i % 4096) 1 4096) n i := by
  unfold rbitsS
  rw [if_neg (by omega), if_neg (by omega), if_neg (by omega), if_pos (by omega), show j - 12 = i from by omega]
theorem rbits_last (t : RSt) (n : Int) (j : Nat) (h0 : 0 < j) (h12 : j ≤ 12) : rbitsS t n j = rputS t (n % 2 ^ j) 1 (2 ^ j) := by
  unfold rbitsS
  rw [if_neg (by omega), if_pos h12]
theorem rbits_nought (t : RSt) (n : Int) : rbitsS t n 0 = t := by unfold rbitsS; rw [if_pos rfl]
attribute [local irreducible] rbitsS rputS rsymS
theorem RIs.drewN {w : World} {m g cap : Nat} {R : RSt} (a : RIs w m R g cap) (n : Nat) : RIs (w.drewN n) m R g cap := ⟨a.blk.drewN n, a.row.drewN n, a.ne⟩
theorem RStep.below {m g g' : Nat} {w w' w'' : World} (a : RStep m g g' w w') (b : Below w'.heap.size w' w'') : RStep m g g' w w'' :=
  ⟨a.only.then (Only.of_below b : Only (fun _ => False) _ _) fun _ h => h.elim, a.own⟩
set_option maxHeartbeats 2000000 in
set_option maxRecDepth 100000 in
theorem RSymbol_yes {w : World} {e ge ce m h cap : Nat} {R : RSt} {L : List Int} {f : Bool} (a : RIs w e R ge ce) (ok : RGood R) (small : R.K ≤ 900000000) (b : Mdl.IsR w m h cap L f) (good : Mdl.Good L) (k : Nat) (hk : k < L.length)
    (n1 : e ≠ m) (n2 : e ≠ h) (n3 : ge ≠ m) (n4 : ge ≠ h) :
    Calls Try.prog 27 #[.pointer (some ⟨e, 0, none⟩), .pointer (some ⟨m, 0, none⟩), .int .i64 k] w fun en w' => ∃ g' c', en = .returned (.tuple #[]) ∧ RIs w' e (rsymS R L k) g' c' ∧ Mdl.IsR w' m h cap (Mdl.next f L k) f ∧
      Only (fun i => (i = e ∨ i = ge) ∨ (i = m ∨ i = h)) w w' ∧ (g' = ge ∨ w.heap.size ≤ g') := by
  have A := Lib.hid a
  have B := Lib.hid b
  have G := Lib.hid good
  have HK := Lib.hid hk
  have MY := Lib.hid (may_of good k hk)
  have RD := Lib.hid ok
  have lm := b.blk.lt
  have lh := b.row.lt
  have hl64 := good.len2
  have d0 := b.blk.cell (i := 0) rfl
  have dk := b.row.cell hk
  have HSy : Hid (rsymS R L k = rputS R (Mdl.lsum (L.take k)) (L.getD k 0) (Mdl.lsum L)) := Lib.hid (by unfold rsymS; rfl)
  have hall := good.all
  have C1 : Hid (∀ n, Calls Try.prog 63 #[.pointer (some ⟨m, 0, none⟩), .int .i64 k] (w.drewN n) fun e w' => e = .returned (.int .i64 (Mdl.lsum (L.take k))) ∧ w' = w.drewN n) := Lib.hid (fun n => Mdl.RSum_calls (b.drewN n) good.nonneg (by omega) k (by omega) hl64)
  have C2 : Hid (∀ n, Calls Try.prog 63 #[.pointer (some ⟨m, 0, none⟩), .int .i64 L.length] (w.drewN n) fun e w' => e = .returned (.int .i64 (Mdl.lsum (L.take L.length))) ∧ w' = w.drewN n) := Lib.hid (fun n => Mdl.RSum_calls (b.drewN n) good.nonneg (by omega) L.length (by omega) hl64)
  have hg : L.getD k 0 = L[k] := getD_get L k hk
  rw [List.take_of_length_le (Nat.le_refl _)] at C2
  rw [hg] at MY HSy
  obtain ⟨n, hn⟩ : ∃ n, L.length = n := ⟨_, rfl⟩
  rw [hn] at d0 C2 HK
  have ik : (k : Int) < (n : Int) := by omega
  generalize L[k]'hk = ow at *
  generalize Mdl.lsum (L.take k) = lo at *
  generalize Mdl.lsum L = al at *
  have HN := Lib.hid hn
  clear a b good ok hk hg hn
  go_enter Try.func27, Try.ntmps27
  go_wp2
  refine region_quiet_tail 18 (by kernel_rfl) (by kernel_rfl) ?_
  simp only [List.take_succ_cons, List.take_zero, List.drop_succ_cons, List.drop_zero]
  repeat (quiet_step ((go_at_call 63; first | (with_reducible exact Calls.quiet_of_same (C1.out _)) | (with_reducible exact Calls.quiet_of_same (C2.out _)))))
  refine wpQuiet_nil ?_
  rintro _ ⟨nq, rfl⟩
  go_wp2_with (first
    | (go_at_call 30
       refine (RPut_yes (A.out.drewN nq) RD.out small lo ow al MY.out).mono ?_
       rintro e2 w2 ⟨g2, c2, rfl, a2, s2⟩
       have A2 := Lib.hid a2
       have O2 : Hid (Only (fun i => (i = e ∨ i = ge) ∨ (i = m ∨ i = h)) w w2) := Lib.hid ((((Only.refl _ w).drewN nq : Only (fun i => (i = e ∨ i = ge) ∨ (i = m ∨ i = h)) w (w.drewN nq))).then s2.only (fun i hi => .inl (.inl hi)))
       have W2 : Hid (g2 = ge ∨ w.heap.size ≤ g2) := Lib.hid s2.own
       have B2 : Hid (Mdl.IsR w2 m h cap L f) := Lib.hid ((B.out.drewN nq).only s2.only (fun hh => by rcases hh with hh | hh; exact n1 hh.symm; exact n3 hh.symm) (fun hh => by rcases hh with hh | hh; exact n2 hh.symm; exact n4 hh.symm))
       clear a2 s2)
    | (go_at_call 64
       refine (Mdl.RLearn_any B2.out G.out k (by rw [HN.out]; exact HK.out)).mono ?_
       rintro e3 w3 ⟨rfl, b3, o3⟩
       have B3 := Lib.hid b3
       have A3 : Hid (RIs w3 e (rputS R lo ow al) g2 c2) := Lib.hid (A2.out.only o3 (fun hh => by rcases hh with hh | hh; exact n1 hh; exact n2 hh) (fun hh => by
         rcases W2.out with h1 | h1
         · subst h1
           rcases hh with hh | hh
           · exact n3 hh
           · exact n4 hh
         · rcases hh with hh | hh
           · omega
           · omega))
       have O3 : Hid (Only (fun i => (i = e ∨ i = ge) ∨ (i = m ∨ i = h)) w w3) := Lib.hid (O2.out.then o3 (fun i hi => .inl (.inr hi)))
       clear b3 o3))
  rw [HSy.out]
  exact bodyPost_end (results_none rfl _ _ _) rfl ⟨g2, c2, rfl, A3.out, B3.out, O3.out, W2.out⟩
def RPost (e g : Nat) (R : RSt) (w : World) (en : Ending) (w' : World) : Prop := ∃ g' c', en = .returned (.tuple #[]) ∧ RIs w' e R g' c' ∧ RStep e g g' w w'
set_option maxHeartbeats 4000000 in
set_option maxRecDepth 100000 in
theorem RBits_yes {w : World} {e g c : Nat} {R : RSt} (a : RIs w e R g c) (ok : RGood R) (small : R.K ≤ 800000000) (n : Int) (wide : Nat) (h0 : 0 ≤ n) (h1 : n < 2 ^ wide) (h2 : wide ≤ 24) :
    Calls Try.prog 28 #[.pointer (some ⟨e, 0, none⟩), .int .i64 n, .int .i64 wide] w (RPost e g (rbitsS R n wide) w) := by
  have hn32 : n < 16777216 := by
    have h4 := Nat.pow_le_pow_right (show 0 < 2 by decide) h2
    have h5 : (2 : Int) ^ wide ≤ 2 ^ 24 := by exact_mod_cast h4
    have e24 : (2 : Int) ^ 24 = 16777216 := by decide
    omega
  have A := Lib.hid a
  have R0 := Lib.hid ok
  clear a ok
  go_enter Try.func28, Try.ntmps28
  go_wp2
  go_loopw [2] (fun u wr => ∃ (j : Nat) (t : RSt) (g' c' : Nat), j ≤ 24 ∧ u = .int .i64 (j : Int) ∧ Hid (rbitsS t n j = rbitsS R n wide) ∧ Hid (RGood t) ∧ t.K + 2 * j ≤ 800000048 ∧ Hid (RIs wr e t g' c') ∧ Hid (RStep e g g' w wr)) (fun u _ => (intOf u).toNat)
  case atStart => exact ⟨wide, R, g, c, h2, rfl, rfl, R0, by omega, A, RStep.refl e g w⟩
  case round =>
    clear A R0
    obtain ⟨j, t, g', c', hj, rfl, HN, R0, hkk, A, S0⟩ := hrel
    by_cases hz : 0 < j
    · obtain ⟨k, i, hk0, hk12, hji, HSt⟩ : ∃ k i : Nat, 0 < k ∧ k ≤ 12 ∧ j = i + k ∧ (Hid (rbitsS t n j = rbitsS (rputS t (n / 2 ^ i % 2 ^ k) 1 (2 ^ k)) n i) ∧ k = min j 12) := by
        by_cases hc : 12 < j
        · exact ⟨12, j - 12, by omega, by omega, by omega, rbits_step t n j (j - 12) (by omega) (by omega) (by omega), by omega⟩
        · refine ⟨j, 0, hz, by omega, by omega, ?_, by omega⟩
          show _ = _
          rw [rbits_last t n j hz (by omega), rbits_nought, Int.pow_zero, Int.ediv_one]
      obtain ⟨HSt, hkm⟩ := HSt
      have hpk : (1 : Int) ≤ 2 ^ k ∧ (2 : Int) ^ k ≤ 4096 := by
        have h3 : (0 : Int) < 2 ^ k := Int.pow_pos (by omega)
        have h4 := Nat.pow_le_pow_right (show 0 < 2 by decide) (show k ≤ 12 by omega)
        have h5 : (2 : Int) ^ k ≤ 2 ^ 12 := by exact_mod_cast h4
        have e12 : (2 : Int) ^ 12 = 4096 := by decide
        omega
      have hpi : (1 : Int) ≤ 2 ^ i := by have : (0 : Int) < 2 ^ i := Int.pow_pos (by omega); omega
      have hx0 : 0 ≤ n / 2 ^ i := Int.ediv_nonneg h0 (by omega)
      have hx1 : n / 2 ^ i ≤ n := Int.ediv_le_self _ h0
      have hq0 := Int.emod_nonneg (n / 2 ^ i) (show (2 : Int) ^ k ≠ 0 by omega)
      have hq1 := Int.emod_lt_of_pos (n / 2 ^ i) (show (0 : Int) < 2 ^ k by omega)
      have PI : Hid (∀ q, Calls Try.prog 65 #[.int .i64 i] (wr.drewN q) fun e w' => e = .returned (.int .i64 (2 ^ i)) ∧ w' = wr.drewN q) := Lib.hid (fun q => power_calls i (by omega) _)
      have PK : Hid (∀ q, Calls Try.prog 65 #[.int .i64 k] (wr.drewN q) fun e w' => e = .returned (.int .i64 (2 ^ k)) ∧ w' = wr.drewN q) := Lib.hid (fun q => power_calls k (by omega) _)
      generalize (2 : Int) ^ i = pi at *
      generalize (2 : Int) ^ k = pk at *
      obtain ⟨x, hx⟩ : ∃ x, x = n / pi := ⟨_, rfl⟩
      rw [← hx] at hx0 hx1 hq0 hq1 HSt
      obtain ⟨y, hy⟩ : ∃ y, y = x % pk := ⟨_, rfl⟩
      rw [← hy] at hq0 hq1 HSt
      have MY : Hid (May y 1 pk) := Lib.hid ⟨hq0, by omega, by omega, by omega⟩
      have HP := Lib.hid (rput_good R0.out MY.out)
      have z1 : pi ≠ 0 := by omega
      have z2 : (pi == 0) = false := by rw [beq_eq_false_iff_ne]; omega
      have z3 : pk ≠ 0 := by omega
      have z4 : (pk == 0) = false := by rw [beq_eq_false_iff_ne]; omega
      have HJ : Hid (t.K + 2 * i + 2 ≤ 800000048) := Lib.hid (by omega)
      have HI : Hid (i < j ∧ i ≤ 24) := Lib.hid (by omega)
      have tk : t.K ≤ 900000000 := by omega
      have t1 : Int.tdiv n pi = x := (Int.tdiv_eq_ediv_of_nonneg h0).trans hx.symm
      have t2 : Int.tmod x pk = y := (Int.tmod_eq_emod_of_nonneg hx0).trans hy.symm
      have w1 : IntKind.i64.wrap x = x := wrapI64 (by omega) (by omega)
      have w2 : IntKind.i64.wrap y = y := wrapI64 (by omega) (by omega)
      by_cases hc : 12 < j
      · obtain rfl : k = 12 := by omega
        have hji2 : (j : Int) - 12 = (i : Int) := by omega
        have w3 : IntKind.i64.wrap (i : Int) = (i : Int) := wrapI64 (by omega) (by omega)
        clear hkm hji hx0 hx1 hq0 hq1 hpi hpk hx hy
        go_wp2
        refine region_quiet_tail 10 (by kernel_rfl) (by kernel_rfl) ?_
        simp only [List.take_succ_cons, List.take_zero, List.drop_succ_cons, List.drop_zero]
        repeat (quiet_step ((go_at_call 65; first | (with_reducible exact Calls.quiet_of_same (PI.out _)) | (with_reducible exact Calls.quiet_of_same (PK.out _)))))
        refine wpQuiet_nil ?_
        rintro _ ⟨nq, rfl⟩
        go_wp2_with (first
          | (go_at_call 30
             refine (RPut_yes (A.out.drewN nq) R0.out tk _ _ _ MY.out).mono ?_
             rintro e4 w4 ⟨g4, c4, rfl, a4, s4⟩
             have A4 := Lib.hid a4
             have S4 : Hid (RStep e g g4 w w4) := Lib.hid ((S0.out.below (pw_below_drewN (Below.refl _ _) nq)).trans s4)
             clear a4 s4))
        go_roundw
        case rel => exact ⟨i, rputS t y 1 pk, g4, c4, HI.out.2, rfl, HSt.out.symm.trans HN.out, HP.out.1, by have := HP.out.2.2; have := HJ.out; omega, A4, S4⟩
        case measure => simp [intOf]; exact HI.out.1
      · obtain rfl : k = j := by omega
        obtain rfl : i = 0 := by omega
        clear hkm hji hx0 hx1 hq0 hq1 hpi hpk hx hy
        go_wp2
        refine region_quiet_tail 10 (by kernel_rfl) (by kernel_rfl) ?_
        simp only [List.take_succ_cons, List.take_zero, List.drop_succ_cons, List.drop_zero]
        repeat (quiet_step ((go_at_call 65; first | (with_reducible exact Calls.quiet_of_same (PI.out _)) | (with_reducible exact Calls.quiet_of_same (PK.out _)))))
        refine wpQuiet_nil ?_
        rintro _ ⟨nq, rfl⟩
        go_wp2_with (first
          | (go_at_call 30
             refine (RPut_yes (A.out.drewN nq) R0.out tk _ _ _ MY.out).mono ?_
             rintro e4 w4 ⟨g4, c4, rfl, a4, s4⟩
             have A4 := Lib.hid a4
             have S4 : Hid (RStep e g g4 w w4) := Lib.hid ((S0.out.below (pw_below_drewN (Below.refl _ _) nq)).trans s4)
             clear a4 s4))
        go_roundw
        case rel => exact ⟨0, rputS t y 1 pk, g4, c4, HI.out.2, rfl, HSt.out.symm.trans HN.out, HP.out.1, by have := HP.out.2.2; have := HJ.out; omega, A4, S4⟩
        case measure => simp [intOf]; exact HI.out.1
    · obtain rfl : j = 0 := by omega
      rw [rbits_nought] at HN
      have HF := Lib.hid HN.out.symm
      clear HN
      go_wp2
      rw [HF.out]
      exact bodyPost_end (results_none rfl _ _ _) rfl ⟨g', c', rfl, A.out, S0.out⟩
end Go.Proofs.Ytlbjoflmfboeeaa.Enc
