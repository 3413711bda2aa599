/- Texts of this session, merged. -/
import Derived.Test.YtlbjoflmfboeeaaMrb1
import Derived.Test.YtlbjoflmfboeeaaRows
import Derived.Laws.BytesArg
import Derived.Lib.SliceRun
import Derived.OrdersHeld
import Derived.Deep.RegionHeld3
/-
  The walk of the document's Put; no condition but those told.
-/
set_option linter.unusedVariables false
set_option linter.unusedSimpArgs false
namespace Go.Proofs.Ytlbjoflmfboeeaa.Enc
open Go.RowKit Go.Proofs.Ytlbjoflmfboeeaa Go.Proofs.YtlbjoflmfboeeaaW.PrintWords Go.Proofs.Ytlbjoflmfboeeaa.Dig

theorem wrapN {x : Int} (n : Nat) (h : x = n) (hn : n < 9223372036854775808) : IntKind.i64.wrap x = (n : Int) := by rw [h]; exact wrapI64 (by omega) (by omega)
theorem addF_step (n : Nat) (D : List Int) (K : Nat) (a : Int) : addF (n + 1) D K a = addF n (D.set (K + n) (D.getD (K + n) 0 + a % 256)) K (a / 256) := rfl
theorem addF_none (D : List Int) (K : Nat) (a : Int) : addF 0 D K a = D := rfl
theorem carF_none (D : List Int) (K : Nat) : carF 0 D K = D := rfl
theorem carF_stop (i : Nat) (D : List Int) (K : Nat) (h : ¬ (K ≤ i + 1 ∨ 255 < D.getD (i + 1) 0)) : carF (i + 1) D K = D := by unfold carF; rw [if_neg h]
theorem carF_over (i : Nat) (D : List Int) (K : Nat) (h : 255 < D.getD (i + 1) 0) : carF (i + 1) D K = carF i ((D.set (i + 1) (D.getD (i + 1) 0 - 256)).set i (D.getD i 0 + 1)) K := by
  rw [carF, if_pos (.inr h), if_pos h]
theorem carF_on (i : Nat) (D : List Int) (K : Nat) (h : ¬ 255 < D.getD (i + 1) 0) (hk : K ≤ i + 1) : carF (i + 1) D K = carF i D K := by
  rw [carF, if_pos (.inl hk), if_neg h]
attribute [local irreducible] addF carF
set_option maxHeartbeats 4000000 in
set_option maxRecDepth 100000 in
theorem RPut_yes {w : World} {m : Nat} {R : RSt} {g cap : Nat} (a : RIs w m R g cap) (ok : RGood R) (small : R.K ≤ 900000000) (lo ow al : Int) (may : May lo ow al) :
    Calls Try.prog 30 #[.pointer (some ⟨m, 0, none⟩), .int .i64 lo, .int .i64 ow, .int .i64 al] w fun e w' => ∃ g' cap', e = .returned (.tuple #[]) ∧ RIs w' m (rputS R lo ow al) g' cap' ∧ RStep m g g' w w' := by
  have HM := Lib.hid (mid_of ok (R.S / al * lo))
  have OK := Lib.hid ok
  have A := Lib.hid a
  obtain ⟨p0, p1, p2, p3⟩ := may
  obtain ⟨each, hE⟩ : ∃ each, each = R.S / al := ⟨_, rfl⟩
  obtain ⟨q, hq⟩ : ∃ q, q = each * lo := ⟨_, rfl⟩
  obtain ⟨r, hr⟩ : ∃ r, r = each * ow := ⟨_, rfl⟩
  have b1 := mul_bd each lo al R.S hE (by omega) p0 (by omega) (by have := ok.s0; omega)
  have b2 := mul_bd each ow al R.S hE (by omega) (by omega) (by omega) (by have := ok.s0; omega)
  have b3 := each_lo al R.S (by omega) p3 ok.s0
  have b4 : each * 1 ≤ each * ow := Int.mul_le_mul_of_nonneg_left p1 (by rw [hE]; omega)
  rw [Int.mul_one] at b4
  rw [← hE] at b3
  rw [← hq] at b1
  rw [← hr] at b2 b4
  have HPut : Hid (rputS R lo ow al = rnorm 2 ⟨carF (R.K + 3) (addF 4 R.D R.K q) R.K, r, R.K⟩) := Lib.hid (by unfold rputS; rw [hq, hr, hE])
  rw [← hE, ← hq] at HM
  have e1 : Int.tdiv R.S al = each := by rw [hE, Int.tdiv_eq_ediv_of_nonneg (by have := ok.s0; omega)]
  have e1' : R.S / al = each := hE.symm
  have e2 : each * lo = q := hq.symm
  have e3 : each * ow = r := hr.symm
  have s0 := ok.s0
  have s1 := ok.s1
  have d0 := a.blk.cell (i := 0) rfl
  have d1 := a.blk.cell (i := 1) rfl
  have d2 := a.blk.cell (i := 2) rfl
  have hlen := ok.len
  have hne := a.ne
  have z1 : al ≠ 0 := by omega
  have z2 : (al == 0) = false := by rw [beq_eq_false_iff_ne]; omega
  have b5 : each ≤ R.S := by rw [hE]; exact Int.ediv_le_self _ (by omega)
  obtain ⟨len, hle⟩ : ∃ len, len = R.K + 4 := ⟨_, rfl⟩
  rw [← hle] at hlen
  rw [hlen] at d0
  have HL := Lib.hid hlen
  obtain ⟨D, S, K⟩ := R
  simp only at *
  clear hE hq hr a ok hlen
  have HLe := Lib.hid hle
  have hle1 : K + 4 ≤ len := by omega
  have hle2 : len ≤ K + 4 := by omega
  clear hle
  go_enter Try.func30, Try.ntmps30
  go_wp2
  clear e1 e1' e2 d0 d1 d2
  go_loopw [9, 10] (fun va vi wr => ∃ (n : Nat) (E : List Int) (x z : Int), n ≤ 4 ∧ vi = .int .i64 z ∧ z + 1 = (n : Int) ∧ va = .int .i64 x ∧ 0 ≤ x ∧ x < 4294967296 ∧ Hid (addF n E K x = addF 4 D K q) ∧ Hid (E.length = len) ∧ Hid (Adds E K n) ∧ Hid (RIs wr m ⟨E, S, K⟩ g cap) ∧ Hid (RStep m g g w wr)) (fun _ vi _ => (intOf vi + 1).toNat)
  case atStart => exact ⟨4, D, q, 3, by omega, rfl, rfl, rfl, by omega, by omega, rfl, HL, adds_of OK.out.dig _ _, A, RStep.refl m g w⟩
  case round =>
    clear A
    obtain ⟨n, E, x, z, hn, rfl, hz1, rfl, hx0, hx1, HA, HE, HAd, A, S0⟩ := hrel
    have d0 := A.out.blk.cell (i := 0) rfl
    have d2 := A.out.blk.cell (i := 2) rfl
    have f2 := A.out.blk.free 2
    simp only at d0 d2
    rw [HE.out] at d0
    by_cases hz : 0 < n
    · obtain ⟨i, rfl⟩ : ∃ i, n = i + 1 := ⟨n - 1, by omega⟩
      obtain rfl : z = (i : Int) := by omega
      clear hz1
      obtain ⟨ix, hix⟩ : ∃ ix, ix = K + i := ⟨_, rfl⟩
      have e5 : IntKind.i64.wrap ((K : Int) + (i : Int)) = (ix : Int) := wrapN ix (by omega) (by omega)
      have hixl : ix < E.length := by rw [HE.out]; omega
      have c1 := A.out.row.cell hixl
      have f1 := A.out.row.free ix
      have ixb : (ix : Int) < (len : Int) := by omega
      have hy0 := HAd.out.low _ (List.getElem_mem hixl)
      have hy1 := HAd.out.top _ (List.getElem_mem hixl)
      have hgd := getD_get E ix hixl
      generalize E[ix]'hixl = y at *
      have e6 : Int.tmod x 256 = x % 256 := Int.tmod_eq_emod_of_nonneg hx0
      have e7 : IntKind.i64.wrap (x % 256) = x % 256 := wrapI64 (by omega) (by omega)
      have e8 : IntKind.i64.wrap (y + x % 256) = y + x % 256 := wrapI64 (by omega) (by omega)
      have HSt := Lib.hid (addF_step i E K x)
      have HAn := Lib.hid (HAd.out.step (by rw [HE.out]; omega) x)
      rw [← hix] at HSt HAn
      rw [hgd] at HSt HAn
      have HIX := Lib.hid hix
      clear hix hgd hixl
      go_wp2
      go_still_tail 26, (by kernel_rfl)
      go_wp2
      go_roundw
      case rel => exact ⟨i, E.set ix (y + x % 256), x / 256, (i : Int) - 1, by omega, rfl, by omega, rfl, by omega, by omega, HSt.out.symm.trans HA.out, by show _ = _; rw [List.length_set]; exact HE.out, HAn.out, ⟨by rw [List.length_set]; exact (A.out.blk.other (a := ⟨g, ix, none⟩) hne _).drew, (A.out.row.set ix _).drew, hne⟩, (S0.out.setg ix _).drew⟩
      case measure => simp [intOf]
    · obtain rfl : n = 0 := by omega
      obtain rfl : z = -1 := by omega
      have HA0 : Hid (E = addF 4 D K q) := Lib.hid ((addF_none E K x).symm.trans HA.out)
      rw [← HA0.out] at HPut HM
      clear hz1 HA HAd
      go_upto_block 2 with (fail)
      go_cut [] (fun wc => Hid (RIs wc m ⟨carF (K + 3) E K, S, K⟩ g cap) ∧ Hid (RStep m g g w wc))
      case first =>
        go_wp2
        go_loopw [11] (fun vi wr => ∃ (i : Nat) (F : List Int), i ≤ K + 3 ∧ vi = .int .i64 (i : Int) ∧ Hid (carF i F K = carF (K + 3) E K) ∧ Hid (F.length = len) ∧ Hid (Mid F K i) ∧ Hid (RIs wr m ⟨F, S, K⟩ g cap) ∧ Hid (RStep m g g w wr)) (fun vi _ => (intOf vi).toNat)
        case atStart => exact ⟨K + 3, E, Nat.le_refl _, by go_num, rfl, HE, HM, A, S0⟩
        case round =>
          clear A S0 d0 d2 f2 HM HE
          obtain ⟨i, F, hi, rfl, HC, HF, HMi, A, S0⟩ := hrel
          have d0 := A.out.blk.cell (i := 0) rfl
          have d1 := A.out.blk.cell (i := 1) rfl
          have d2 := A.out.blk.cell (i := 2) rfl
          have f1 := A.out.blk.free 1
          simp only at d0 d1 d2
          rw [HF.out] at d0
          by_cases h0 : 0 < i
          · obtain ⟨j, hj⟩ : ∃ j, i = j + 1 := ⟨i - 1, by omega⟩
            have il : i < F.length := by rw [HF.out]; omega
            have jl : j < F.length := by rw [HF.out]; omega
            have c1 := A.out.row.cell il
            have g1 := A.out.row.free i
            have gd1 := getD_get F i il
            have ib : (i : Int) < (len : Int) := by omega
            have jb : (j : Int) < (len : Int) := by omega
            have y0 := HMi.out.low _ (List.getElem_mem il)
            have y1 := HMi.out.at_ il
            have x0 := HMi.out.low _ (List.getElem_mem jl)
            have x1 := HMi.out.lt j jl (by omega)
            have gd2 := getD_get F j jl
            generalize F[i]'il = y at *
            by_cases hy : 255 < y
            · have HCo := Lib.hid (carF_over j F K (by rw [← hj, gd1]; exact hy))
              have HMn : Hid (Mid ((F.set i (y - 256)).set j (F.getD j 0 + 1)) K j) := by
                have := Mid.step (i := j) (by rw [← hj]; exact HMi.out) (by omega) (by rw [← hj, gd1]; exact hy)
                rw [← hj, gd1] at this
                exact this
              rw [← hj, gd1, gd2] at HCo
              rw [gd2] at HMn
              have CJ : Hid ((wr.setCell ⟨g, i, none⟩ (.int .i64 (y - 256))).drew.cell? ⟨g, j, none⟩ = some (.int .i64 (F[j]'jl))) := by
                have h1 := ((A.out.row.set i (y - 256)).drew).cell (i := j) (by rw [List.length_set]; exact jl)
                rw [List.getElem_set_ne (by omega)] at h1
                exact h1
              have cj := A.out.row.cell jl
              generalize F[j]'jl = x2 at *
              have e4 : IntKind.i64.wrap (y - 256) = y - 256 := wrapI64 (by omega) (by omega)
              have e5 : IntKind.i64.wrap (x2 + 1) = x2 + 1 := wrapI64 (by omega) (by omega)
              have e6 : IntKind.i64.wrap ((i : Int) - 1) = (j : Int) := wrapN j (by omega) (by omega)
              have A2 : Hid (RowI (wr.setCell ⟨g, i, none⟩ (.int .i64 (y - 256))).drew 3 .i64 g cap (F.set i (y - 256))) := Lib.hid (A.out.row.set i (y - 256)).drew
              have B2 : Hid (Blk (wr.setCell ⟨g, i, none⟩ (.int .i64 (y - 256))).drew m 56 #[.slice (some ⟨g, 0, none⟩) F.length cap, .int .i64 S, .int .i64 K]) := Lib.hid (A.out.blk.other (a := ⟨g, i, none⟩) hne (.int .i64 (y - 256))).drew
              have S2 := Lib.hid (S0.out.setg i (.int .i64 (y - 256))).drew
              have HJ := Lib.hid hj
              clear gd1 gd2 hj
              by_cases hk : K ≤ i
              all_goals
                go_wp2
                go_still_tail 14, (by kernel_rfl)
                go_wp2
                clear d0 d1 d2 c1 g1 cj f1 A S0
                generalize (wr.setCell ⟨g, i, none⟩ (.int .i64 (y - 256))).drew = w2 at *
                have d0 := B2.out.cell (i := 0) rfl
                have cj := CJ.out
                have gj := A2.out.free j
                rw [HF.out] at d0
                go_still_tail 16, (by kernel_rfl)
                go_wp2
                go_roundw
                case rel =>
                  exact ⟨j, (F.set i (y - 256)).set j (x2 + 1), by have := HJ.out; omega, rfl, HCo.out.symm.trans HC.out, by show _ = _; rw [List.length_set, List.length_set]; exact HF.out, HMn, ⟨by rw [List.length_set, List.length_set]; exact (B2.out.other (a := ⟨g, j, none⟩) hne _).drew, (A2.out.set j _).drew, hne⟩, (S2.out.setg j _).drew⟩
                case measure => simp [intOf]; have := HJ.out; omega
            · by_cases hk : K ≤ i
              · have HCo := Lib.hid (carF_on j F K (by rw [← hj, gd1]; exact hy) (by omega))
                have HMn : Hid (Mid F K j) := Lib.hid (Mid.skip (i := j) (by rw [← hj]; exact HMi.out) (by omega) (by rw [← hj, gd1]; exact hy))
                rw [← hj] at HCo
                have e6 : IntKind.i64.wrap ((i : Int) - 1) = (j : Int) := wrapN j (by omega) (by omega)
                have HJ := Lib.hid hj
                have e7 : (i : Int) - 1 = (j : Int) := by omega
                clear gd1 gd2 hj
                go_wp2
                go_roundw
                case rel => exact ⟨j, F, by have := HJ.out; omega, rfl, HCo.out.symm.trans HC.out, HF, HMn, A, S0⟩
                case measure => simp [intOf]; have := HJ.out; omega
              · have HCo := Lib.hid (carF_stop j F K (by rw [← hj, gd1]; omega))
                rw [← hj] at HCo
                have HFin : Hid (F = carF (K + 3) E K) := Lib.hid (HCo.out.symm.trans HC.out)
                clear gd1 gd2 hj HC HCo HMi
                go_wp2
                go_meet
                rw [← HFin.out]
                exact ⟨A, S0⟩
          · obtain rfl : i = 0 := by omega
            have HFin : Hid (F = carF (K + 3) E K) := Lib.hid ((carF_none F K).symm.trans HC.out)
            clear HC HMi
            go_wp2
            go_meet
            rw [← HFin.out]
            exact ⟨A, S0⟩
      case rest =>
        clear A S0 d0 d2 f2 HM
        obtain ⟨A, S0⟩ := hcut
        have HCl : Hid ((carF (K + 3) E K).length = len) := Lib.hid (by rw [carF_len]; exact HE.out)
        generalize carF (K + 3) E K = F at *
        clear HE
        have f1 := A.out.blk.free 1
        have d1 := A.out.blk.cell (i := 1) rfl
        have A1 : Hid (RIs (wc.setCell ⟨m, 1, none⟩ (.int .i64 r)) m ⟨F, r, K⟩ g cap) := Lib.hid ⟨A.out.blk.set 1 _, A.out.row.other (a := ⟨m, 1, none⟩) (Ne.symm hne) _, hne⟩
        have S1 := Lib.hid (S0.out.setm 1 (.int .i64 r))
        go_wp2
        clear A S0 d1 f1
        go_loopg [] 2 (fun j wr => ∃ (T : RSt) (g' cap' : Nat), j ≤ 2 ∧ lw j ≤ T.S ∧ T.S < 4294967296 ∧ T.K + j ≤ 900000002 ∧ Hid (rnorm j T = rputS ⟨D, S, K⟩ lo ow al) ∧ Hid (T.D.length = T.K + 4) ∧ Hid (RIs wr m T g' cap') ∧ Hid (RStep m g g' w wr))
        case atStart => exact ⟨⟨F, r, K⟩, g, cap, Nat.le_refl _, by show (256 : Int) ≤ r; omega, by simp only; omega, by simp only; omega, HPut.out.symm, by show F.length = K + 4; rw [HCl.out]; omega, A1, S1⟩
        case round =>
          clear A1 S1 HPut HCl
          obtain ⟨T, g', cap', hj2, hlw, hS1, hTK, HN, HTl, A, S0⟩ := hrel
          have d0 := A.out.blk.cell (i := 0) rfl
          have d1 := A.out.blk.cell (i := 1) rfl
          have d2 := A.out.blk.cell (i := 2) rfl
          have f0 := A.out.blk.free 0
          have f1 := A.out.blk.free 1
          have f2 := A.out.blk.free 2
          have hml := A.out.blk.lt
          have hne2 := A.out.ne
          rw [HTl.out] at d0
          by_cases hc : T.S < 16777216
          · have hg : 0 < gk := by
              rcases Nat.eq_zero_or_pos gk with h | h
              · subst h; have : (16777216 : Int) ≤ T.S := hlw; omega
              · exact h
            obtain ⟨j, rfl⟩ : ∃ j, gk = j + 1 := ⟨gk - 1, by omega⟩
            have HSt : Hid (rnorm (j + 1) T = rnorm j (rstep T)) := Lib.hid (by show (if T.S < 16777216 then rnorm j (rstep T) else T) = _; rw [if_pos hc])
            have hlw2 : lw j ≤ T.S * 256 := by
              rcases (show j = 0 ∨ j = 1 by omega) with h | h
              · subst h; have : (65536 : Int) ≤ T.S := hlw; show (16777216 : Int) ≤ _; omega
              · subst h; have : (256 : Int) ≤ T.S := hlw; show (65536 : Int) ≤ _; omega
            have hT0 : 0 ≤ T.S := by
              rcases (show j = 0 ∨ j = 1 by omega) with h | h
              · subst h; have : (65536 : Int) ≤ T.S := hlw; omega
              · subst h; have : (256 : Int) ≤ T.S := hlw; omega
            obtain ⟨TD, TS, TK⟩ := T
            simp only at *
            have A1 : Hid (Blk ((wr.setCell ⟨m, 1, none⟩ (.int .i64 (TS * 256))).setCell ⟨m, 2, none⟩ (.int .i64 ((TK : Int) + 1))) m 56 #[.slice (some ⟨g', 0, none⟩) (TK + 4) cap', .int .i64 (TS * 256), .int .i64 ((TK : Int) + 1)]) := Lib.hid (by
              have := (A.out.blk.set 1 (.int .i64 (TS * 256))).set 2 (.int .i64 ((TK : Int) + 1))
              simp only at this
              rw [HTl.out] at this
              exact this)
            have R1 : Hid (RowI ((wr.setCell ⟨m, 1, none⟩ (.int .i64 (TS * 256))).setCell ⟨m, 2, none⟩ (.int .i64 ((TK : Int) + 1))) 3 .i64 g' cap' TD) := Lib.hid ((A.out.row.other (a := ⟨m, 1, none⟩) (Ne.symm hne2) _).other (a := ⟨m, 2, none⟩) (Ne.symm hne2) _)
            have S1 : Hid (RStep m g g' w ((wr.setCell ⟨m, 1, none⟩ (.int .i64 (TS * 256))).setCell ⟨m, 2, none⟩ (.int .i64 ((TK : Int) + 1)))) := Lib.hid ((S0.out.setm 1 _).setm 2 _)
            have hrl := R1.out.lt
            have SL := Lib.hid (Sl.row R1.out)
            rw [HTl.out] at SL
            clear hlw A S0
            go_wp2_with (first
              | (at_builtin; refine wpList_push (.tmp 149) (.tmp 150) 54 3 .i64 0 8 rfl rfl Try.underlying54 Mdl.info_int (.slice (some ⟨g', 0, none⟩) (TK + 4) cap') TD (TK + 4) 0 ⟨wr.heap.size, 0, none⟩ (wr.heap.size + 1) rfl rfl ?_ HTl.out ?_ ?_ ?_ ?_ ?_
                 · exact SL.out.alloc _
                 · exact (Blk.new_at _ _ (by simp [World.setCell])).cell (i := 0) rfl
                 · simp [World.setCell]
                 · omega
                 · omega
                 intro g2 cap2 w2 hp
                 have b2 := (A1.out.alloc (.cells #[.int .i64 0] 3)).of_same (hp.block (by have := A1.out.lt; simp at this ⊢; omega) (fun e => hne2 (Option.some.inj e).symm))
                 have x0 := b2.cell (i := 0) rfl
                 have y0 := b2.free 0
                 have B2 := Lib.hid b2
                 have HP := Lib.hid hp
                 clear hp b2))
            go_roundg j
            case measure => omega
            case rel =>
              have hgm : g2 ≠ m := by
                rcases HP.out.at_ with h | h
                · have e : g' = g2 := Option.some.inj h
                  omega
                · omega
              have eT : (TD ++ [0]).length = TK + 4 + 1 := by rw [List.length_append, HTl.out]; rfl
              have eK : ((TK : Int) + 1) = ((TK + 1 : Nat) : Int) := by omega
              refine ⟨⟨TD ++ [0], TS * 256, TK + 1⟩, g2, cap2, by omega, hlw2, by simp only; omega, by simp only; omega, HSt.out.symm.trans HN.out, by show (TD ++ [0]).length = TK + 1 + 4; omega, ⟨?_, HP.out.row.other (a := ⟨m, 0, none⟩) hgm _, fun e => hgm e.symm⟩, ?_⟩
              · have := B2.out.set 0 (.slice (some ⟨g2, 0, none⟩) (TK + 4 + 1) cap2)
                simp only
                rw [eT, ← eK]
                exact this
              · have st : RStep m g' g2 ((wr.setCell ⟨m, 1, none⟩ (.int .i64 (TS * 256))).setCell ⟨m, 2, none⟩ (.int .i64 ((TK : Int) + 1))) w2 := by
                  refine ⟨((Only.refl _ _).alloc _).then HP.out.only (fun i hi => .inl (.inr (Option.some.inj hi).symm)), ?_⟩
                  rcases HP.out.at_ with h | h
                  · exact .inl (Option.some.inj h).symm
                  · refine .inr ?_
                    simp [World.setCell]; omega
                exact (S1.out.trans st).setm 0 _
          · have HF2 : Hid (rputS ⟨D, S, K⟩ lo ow al = T) := Lib.hid (HN.out.symm.trans (by
              cases gk with
              | zero => rfl
              | succ j => show (if T.S < 16777216 then rnorm j (rstep T) else T) = _; rw [if_neg hc]))
            clear HN
            go_wp2
            rw [HF2.out]
            exact bodyPost_end (results_none rfl _ _ _) rfl ⟨rfl, g', ⟨cap', A.out⟩, S0.out⟩
end Go.Proofs.Ytlbjoflmfboeeaa.Enc

/-
  The walks of the document's encoder: Symbol, Bits, Bytes; no condition but those told.
-/
set_option linter.unusedVariables false
set_option linter.unusedSimpArgs false
namespace Go.Proofs.Ytlbjoflmfboeeaa.Enc
open Go.RowKit Go.Proofs.Ytlbjoflmfboeeaa Go.Proofs.YtlbjoflmfboeeaaW.PrintWords Go.Proofs.Ytlbjoflmfboeeaa.Dig

def rsymS (R : RSt) (L : List Int) (k : Nat) : RSt := rputS R (Mdl.lsum (L.take k)) (L.getD k 0) (Mdl.lsum L)
def rbitsS (R : RSt) (n : Int) (w : Nat) : RSt :=
  if w = 0 then R else if w ≤ 12 then rputS R (n % 2 ^ w) 1 (2 ^ w) else rputS (rputS R (n / 2 ^ (w - 12) % 4096) 1 4096) (n % 2 ^ (w - 12)) 1 (2 ^ (w - 12))
theorem rbits_step (t : RSt) (n : Int) (j i : Nat) (hi : j = i + 12) (h0 : 0 < i) (h12 : i ≤ 12) : rbitsS t n j = rbitsS (rputS t (n / 2 ^ i % 4096) 1 4096) n i := by
  unfold rbitsS
  rw [if_neg (by omega), if_neg (by omega), if_neg (by omega), if_pos (by omega), show j - 12 = i from by omega]
theorem rbits_last (t : RSt) (n : Int) (j : Nat) (h0 : 0 < j) (h12 : j ≤ 12) : rbitsS t n j = rputS t (n % 2 ^ j) 1 (2 ^ j) := by
  unfold rbitsS
  rw [if_neg (by omega), if_pos h12]
theorem rbits_nought (t : RSt) (n : Int) : rbitsS t n 0 = t := by unfold rbitsS; rw [if_pos rfl]
attribute [local irreducible] rbitsS rputS rsymS
theorem RIs.drewN {w : World} {m g cap : Nat} {R : RSt} (a : RIs w m R g cap) (n : Nat) : RIs (w.drewN n) m R g cap := ⟨a.blk.drewN n, a.row.drewN n, a.ne⟩
theorem RStep.below {m g g' : Nat} {w w' w'' : World} (a : RStep m g g' w w') (b : Below w'.heap.size w' w'') : RStep m g g' w w'' :=
  ⟨a.only.then (Only.of_below b : Only (fun _ => False) _ _) fun _ h => h.elim, a.own⟩
set_option maxHeartbeats 2000000 in
set_option maxRecDepth 100000 in
theorem RSymbol_yes {w : World} {e ge ce m h cap : Nat} {R : RSt} {L : List Int} {f : Bool} (a : RIs w e R ge ce) (ok : RGood R) (small : R.K ≤ 900000000) (b : Mdl.IsR w m h cap L f) (good : Mdl.Good L) (k : Nat) (hk : k < L.length)
    (n1 : e ≠ m) (n2 : e ≠ h) (n3 : ge ≠ m) (n4 : ge ≠ h) :
    Calls Try.prog 27 #[.pointer (some ⟨e, 0, none⟩), .pointer (some ⟨m, 0, none⟩), .int .i64 k] w fun en w' => ∃ g' c', en = .returned (.tuple #[]) ∧ RIs w' e (rsymS R L k) g' c' ∧ Mdl.IsR w' m h cap (Mdl.next f L k) f ∧
      Only (fun i => (i = e ∨ i = ge) ∨ (i = m ∨ i = h)) w w' ∧ (g' = ge ∨ w.heap.size ≤ g') := by
  have A := Lib.hid a
  have B := Lib.hid b
  have G := Lib.hid good
  have HK := Lib.hid hk
  have MY := Lib.hid (may_of good k hk)
  have RD := Lib.hid ok
  have lm := b.blk.lt
  have lh := b.row.lt
  have hl64 := good.len2
  have d0 := b.blk.cell (i := 0) rfl
  have dk := b.row.cell hk
  have HSy : Hid (rsymS R L k = rputS R (Mdl.lsum (L.take k)) (L.getD k 0) (Mdl.lsum L)) := Lib.hid (by unfold rsymS; rfl)
  have hall := good.all
  have C1 : Hid (∀ n, Calls Try.prog 63 #[.pointer (some ⟨m, 0, none⟩), .int .i64 k] (w.drewN n) fun e w' => e = .returned (.int .i64 (Mdl.lsum (L.take k))) ∧ w' = w.drewN n) := Lib.hid (fun n => Mdl.RSum_calls (b.drewN n) good.nonneg (by omega) k (by omega) hl64)
  have C2 : Hid (∀ n, Calls Try.prog 63 #[.pointer (some ⟨m, 0, none⟩), .int .i64 L.length] (w.drewN n) fun e w' => e = .returned (.int .i64 (Mdl.lsum (L.take L.length))) ∧ w' = w.drewN n) := Lib.hid (fun n => Mdl.RSum_calls (b.drewN n) good.nonneg (by omega) L.length (by omega) hl64)
  have hg : L.getD k 0 = L[k] := getD_get L k hk
  rw [List.take_of_length_le (Nat.le_refl _)] at C2
  rw [hg] at MY HSy
  obtain ⟨n, hn⟩ : ∃ n, L.length = n := ⟨_, rfl⟩
  rw [hn] at d0 C2 HK
  have ik : (k : Int) < (n : Int) := by omega
  generalize L[k]'hk = ow at *
  generalize Mdl.lsum (L.take k) = lo at *
  generalize Mdl.lsum L = al at *
  have HN := Lib.hid hn
  clear a b good ok hk hg hn
  go_enter Try.func27, Try.ntmps27
  go_wp2
  refine region_quiet_tail 18 (by kernel_rfl) (by kernel_rfl) ?_
  simp only [List.take_succ_cons, List.take_zero, List.drop_succ_cons, List.drop_zero]
  repeat (quiet_step ((go_at_call 63; first | (with_reducible exact Calls.quiet_of_same (C1.out _)) | (with_reducible exact Calls.quiet_of_same (C2.out _)))))
  refine wpQuiet_nil ?_
  rintro _ ⟨nq, rfl⟩
  go_wp2_with (first
    | (go_at_call 30
       refine (RPut_yes (A.out.drewN nq) RD.out small lo ow al MY.out).mono ?_
       rintro e2 w2 ⟨g2, c2, rfl, a2, s2⟩
       have A2 := Lib.hid a2
       have O2 : Hid (Only (fun i => (i = e ∨ i = ge) ∨ (i = m ∨ i = h)) w w2) := Lib.hid ((((Only.refl _ w).drewN nq : Only (fun i => (i = e ∨ i = ge) ∨ (i = m ∨ i = h)) w (w.drewN nq))).then s2.only (fun i hi => .inl (.inl hi)))
       have W2 : Hid (g2 = ge ∨ w.heap.size ≤ g2) := Lib.hid s2.own
       have B2 : Hid (Mdl.IsR w2 m h cap L f) := Lib.hid ((B.out.drewN nq).only s2.only (fun hh => by rcases hh with hh | hh; exact n1 hh.symm; exact n3 hh.symm) (fun hh => by rcases hh with hh | hh; exact n2 hh.symm; exact n4 hh.symm))
       clear a2 s2)
    | (go_at_call 64
       refine (Mdl.RLearn_any B2.out G.out k (by rw [HN.out]; exact HK.out)).mono ?_
       rintro e3 w3 ⟨rfl, b3, o3⟩
       have B3 := Lib.hid b3
       have A3 : Hid (RIs w3 e (rputS R lo ow al) g2 c2) := Lib.hid (A2.out.only o3 (fun hh => by rcases hh with hh | hh; exact n1 hh; exact n2 hh) (fun hh => by
         rcases W2.out with h1 | h1
         · subst h1
           rcases hh with hh | hh
           · exact n3 hh
           · exact n4 hh
         · rcases hh with hh | hh
           · omega
           · omega))
       have O3 : Hid (Only (fun i => (i = e ∨ i = ge) ∨ (i = m ∨ i = h)) w w3) := Lib.hid (O2.out.then o3 (fun i hi => .inl (.inr hi)))
       clear b3 o3))
  rw [HSy.out]
  exact bodyPost_end (results_none rfl _ _ _) rfl ⟨g2, c2, rfl, A3.out, B3.out, O3.out, W2.out⟩
def RPost (e g : Nat) (R : RSt) (w : World) (en : Ending) (w' : World) : Prop := ∃ g' c', en = .returned (.tuple #[]) ∧ RIs w' e R g' c' ∧ RStep e g g' w w'
set_option maxHeartbeats 4000000 in
set_option maxRecDepth 100000 in
theorem RBits_yes {w : World} {e g c : Nat} {R : RSt} (a : RIs w e R g c) (ok : RGood R) (small : R.K ≤ 800000000) (n : Int) (wide : Nat) (h0 : 0 ≤ n) (h1 : n < 2 ^ wide) (h2 : wide ≤ 24) :
    Calls Try.prog 28 #[.pointer (some ⟨e, 0, none⟩), .int .i64 n, .int .i64 wide] w (RPost e g (rbitsS R n wide) w) := by
  have hn32 : n < 16777216 := by
    have h4 := Nat.pow_le_pow_right (show 0 < 2 by decide) h2
    have h5 : (2 : Int) ^ wide ≤ 2 ^ 24 := by exact_mod_cast h4
    have e24 : (2 : Int) ^ 24 = 16777216 := by decide
    omega
  have A := Lib.hid a
  have R0 := Lib.hid ok
  clear a ok
  go_enter Try.func28, Try.ntmps28
  go_wp2
  go_loopw [2] (fun u wr => ∃ (j : Nat) (t : RSt) (g' c' : Nat), j ≤ 24 ∧ u = .int .i64 (j : Int) ∧ Hid (rbitsS t n j = rbitsS R n wide) ∧ Hid (RGood t) ∧ t.K + 2 * j ≤ 800000048 ∧ Hid (RIs wr e t g' c') ∧ Hid (RStep e g g' w wr)) (fun u _ => (intOf u).toNat)
  case atStart => exact ⟨wide, R, g, c, h2, rfl, rfl, R0, by omega, A, RStep.refl e g w⟩
  case round =>
    clear A R0
    obtain ⟨j, t, g', c', hj, rfl, HN, R0, hkk, A, S0⟩ := hrel
    by_cases hz : 0 < j
    · obtain ⟨k, i, hk0, hk12, hji, HSt⟩ : ∃ k i : Nat, 0 < k ∧ k ≤ 12 ∧ j = i + k ∧ (Hid (rbitsS t n j = rbitsS (rputS t (n / 2 ^ i % 2 ^ k) 1 (2 ^ k)) n i) ∧ k = min j 12) := by
        by_cases hc : 12 < j
        · exact ⟨12, j - 12, by omega, by omega, by omega, rbits_step t n j (j - 12) (by omega) (by omega) (by omega), by omega⟩
        · refine ⟨j, 0, hz, by omega, by omega, ?_, by omega⟩
          show _ = _
          rw [rbits_last t n j hz (by omega), rbits_nought, Int.pow_zero, Int.ediv_one]
      obtain ⟨HSt, hkm⟩ := HSt
      have hpk : (1 : Int) ≤ 2 ^ k ∧ (2 : Int) ^ k ≤ 4096 := by
        have h3 : (0 : Int) < 2 ^ k := Int.pow_pos (by omega)
        have h4 := Nat.pow_le_pow_right (show 0 < 2 by decide) (show k ≤ 12 by omega)
        have h5 : (2 : Int) ^ k ≤ 2 ^ 12 := by exact_mod_cast h4
        have e12 : (2 : Int) ^ 12 = 4096 := by decide
        omega
      have hpi : (1 : Int) ≤ 2 ^ i := by have : (0 : Int) < 2 ^ i := Int.pow_pos (by omega); omega
      have hx0 : 0 ≤ n / 2 ^ i := Int.ediv_nonneg h0 (by omega)
      have hx1 : n / 2 ^ i ≤ n := Int.ediv_le_self _ h0
      have hq0 := Int.emod_nonneg (n / 2 ^ i) (show (2 : Int) ^ k ≠ 0 by omega)
      have hq1 := Int.emod_lt_of_pos (n / 2 ^ i) (show (0 : Int) < 2 ^ k by omega)
      have PI : Hid (∀ q, Calls Try.prog 65 #[.int .i64 i] (wr.drewN q) fun e w' => e = .returned (.int .i64 (2 ^ i)) ∧ w' = wr.drewN q) := Lib.hid (fun q => power_calls i (by omega) _)
      have PK : Hid (∀ q, Calls Try.prog 65 #[.int .i64 k] (wr.drewN q) fun e w' => e = .returned (.int .i64 (2 ^ k)) ∧ w' = wr.drewN q) := Lib.hid (fun q => power_calls k (by omega) _)
      generalize (2 : Int) ^ i = pi at *
      generalize (2 : Int) ^ k = pk at *
      obtain ⟨x, hx⟩ : ∃ x, x = n / pi := ⟨_, rfl⟩
      rw [← hx] at hx0 hx1 hq0 hq1 HSt
      obtain ⟨y, hy⟩ : ∃ y, y = x % pk := ⟨_, rfl⟩
      rw [← hy] at hq0 hq1 HSt
      have MY : Hid (May y 1 pk) := Lib.hid ⟨hq0, by omega, by omega, by omega⟩
      have HP := Lib.hid (rput_good R0.out MY.out)
      have z1 : pi ≠ 0 := by omega
      have z2 : (pi == 0) = false := by rw [beq_eq_false_iff_ne]; omega
      have z3 : pk ≠ 0 := by omega
      have z4 : (pk == 0) = false := by rw [beq_eq_false_iff_ne]; omega
      have HJ : Hid (t.K + 2 * i + 2 ≤ 800000048) := Lib.hid (by omega)
      have HI : Hid (i < j ∧ i ≤ 24) := Lib.hid (by omega)
      have tk : t.K ≤ 900000000 := by omega
      have t1 : Int.tdiv n pi = x := (Int.tdiv_eq_ediv_of_nonneg h0).trans hx.symm
      have t2 : Int.tmod x pk = y := (Int.tmod_eq_emod_of_nonneg hx0).trans hy.symm
      have w1 : IntKind.i64.wrap x = x := wrapI64 (by omega) (by omega)
      have w2 : IntKind.i64.wrap y = y := wrapI64 (by omega) (by omega)
      by_cases hc : 12 < j
      · obtain rfl : k = 12 := by omega
        have hji2 : (j : Int) - 12 = (i : Int) := by omega
        have w3 : IntKind.i64.wrap (i : Int) = (i : Int) := wrapI64 (by omega) (by omega)
        clear hkm hji hx0 hx1 hq0 hq1 hpi hpk hx hy
        go_wp2
        refine region_quiet_tail 10 (by kernel_rfl) (by kernel_rfl) ?_
        simp only [List.take_succ_cons, List.take_zero, List.drop_succ_cons, List.drop_zero]
        repeat (quiet_step ((go_at_call 65; first | (with_reducible exact Calls.quiet_of_same (PI.out _)) | (with_reducible exact Calls.quiet_of_same (PK.out _)))))
        refine wpQuiet_nil ?_
        rintro _ ⟨nq, rfl⟩
        go_wp2_with (first
          | (go_at_call 30
             refine (RPut_yes (A.out.drewN nq) R0.out tk _ _ _ MY.out).mono ?_
             rintro e4 w4 ⟨g4, c4, rfl, a4, s4⟩
             have A4 := Lib.hid a4
             have S4 : Hid (RStep e g g4 w w4) := Lib.hid ((S0.out.below (pw_below_drewN (Below.refl _ _) nq)).trans s4)
             clear a4 s4))
        go_roundw
        case rel => exact ⟨i, rputS t y 1 pk, g4, c4, HI.out.2, rfl, HSt.out.symm.trans HN.out, HP.out.1, by have := HP.out.2.2; have := HJ.out; omega, A4, S4⟩
        case measure => simp [intOf]; exact HI.out.1
      · obtain rfl : k = j := by omega
        obtain rfl : i = 0 := by omega
        clear hkm hji hx0 hx1 hq0 hq1 hpi hpk hx hy
        go_wp2
        refine region_quiet_tail 10 (by kernel_rfl) (by kernel_rfl) ?_
        simp only [List.take_succ_cons, List.take_zero, List.drop_succ_cons, List.drop_zero]
        repeat (quiet_step ((go_at_call 65; first | (with_reducible exact Calls.quiet_of_same (PI.out _)) | (with_reducible exact Calls.quiet_of_same (PK.out _)))))
        refine wpQuiet_nil ?_
        rintro _ ⟨nq, rfl⟩
        go_wp2_with (first
          | (go_at_call 30
             refine (RPut_yes (A.out.drewN nq) R0.out tk _ _ _ MY.out).mono ?_
             rintro e4 w4 ⟨g4, c4, rfl, a4, s4⟩
             have A4 := Lib.hid a4
             have S4 : Hid (RStep e g g4 w w4) := Lib.hid ((S0.out.below (pw_below_drewN (Below.refl _ _) nq)).trans s4)
             clear a4 s4))
        go_roundw
        case rel => exact ⟨0, rputS t y 1 pk, g4, c4, HI.out.2, rfl, HSt.out.symm.trans HN.out, HP.out.1, by have := HP.out.2.2; have := HJ.out; omega, A4, S4⟩
        case measure => simp [intOf]; exact HI.out.1
    · obtain rfl : j = 0 := by omega
      rw [rbits_nought] at HN
      have HF := Lib.hid HN.out.symm
      clear HN
      go_wp2
      rw [HF.out]
      exact bodyPost_end (results_none rfl _ _ _) rfl ⟨g', c', rfl, A.out, S0.out⟩
end Go.Proofs.Ytlbjoflmfboeeaa.Enc

/-
  The walk of the document's Bytes; no condition but those told.
-/
set_option linter.unusedVariables false
set_option linter.unusedSimpArgs false
namespace Go.Proofs.Ytlbjoflmfboeeaa.Enc
open Go.RowKit Go.Proofs.Ytlbjoflmfboeeaa Go.Proofs.YtlbjoflmfboeeaaW.PrintWords Go.Proofs.Ytlbjoflmfboeeaa.Dig

/-- A slice of bytes of the call's own. -/
def BPost (l : List Int) (w : World) (en : Ending) (w' : World) : Prop := ∃ v', en = .returned v' ∧ Sl w' 5 .u8 v' l ∧ (∀ g, v'.ownBlock = some g → w.heap.size ≤ g) ∧ Below w.heap.size w w'
set_option maxHeartbeats 4000000 in
set_option maxRecDepth 100000 in
theorem RBytes_calls {w : World} {e g c : Nat} {R : RSt} (a : RIs w e R g c) (dig : ∀ x ∈ R.D, 0 ≤ x ∧ x ≤ 255) (small : R.D.length ≤ 900000000) :
    Calls Try.prog 31 #[.pointer (some ⟨e, 0, none⟩)] w (BPost (strip R.D) w) := by
  have d0 := a.blk.cell (i := 0) rfl
  have A := Lib.hid a
  have HD := Lib.hid dig
  have hle := a.blk.lt
  have hlg := a.row.lt
  clear a dig
  obtain ⟨len, hl⟩ : ∃ len, R.D.length = len := ⟨_, rfl⟩
  have HL := Lib.hid hl
  rw [hl] at d0 small
  clear hl
  go_enter Try.func31, Try.ntmps31
  go_wp2
  go_loopw [4, 5] (fun vl vi wr => ∃ (k n : Nat) (z : Int), k ≤ len ∧ n ≤ k ∧ vi = .int .i64 (k : Int) ∧ vl = .int .i64 z ∧ z + 1 = (n : Int) ∧ Hid (strip (R.D.take k) = R.D.take n) ∧ wr = w) (fun _ vi _ => len - (intOf vi).toNat)
  case atStart => exact ⟨0, 0, -1, by omega, by omega, rfl, rfl, rfl, rfl, rfl⟩
  case round =>
    obtain ⟨k, n, z, hk, hn, rfl, rfl, hz, HS, rfl⟩ := hrel
    by_cases hlt : k < len
    · have ck := A.out.row.cell (i := k) (by rw [HL.out]; omega)
      have HT := Lib.hid (strip_take R.D k (by rw [HL.out]; omega))
      have ib : (k : Int) < (len : Int) := by omega
      generalize R.D[k]'(by rw [HL.out]; omega) = y at *
      by_cases hy : y = 0
      · have z1 : (y == 0) = true := by rw [beq_iff_eq]; exact hy
        have z2 : (y != 0) = false := by rw [hy]; rfl
        have HT2 : Hid (strip (R.D.take (k + 1)) = R.D.take n) := Lib.hid (by rw [HT.out, if_pos hy]; exact HS.out)
        clear hy
        go_wp2
        go_roundw
        case rel => exact ⟨k + 1, n, z, by omega, by omega, by push_cast; rfl, rfl, hz, HT2, trivial⟩
        case measure => simp [intOf]; omega
      · have z1 : (y == 0) = false := by rw [beq_eq_false_iff_ne]; exact hy
        have z2 : (y != 0) = true := by rw [bne_iff_ne]; exact hy
        have HT2 : Hid (strip (R.D.take (k + 1)) = R.D.take (k + 1)) := Lib.hid (by rw [HT.out, if_neg hy])
        clear hy
        go_wp2
        go_roundw
        case rel => exact ⟨k + 1, k + 1, k, by omega, by omega, by push_cast; rfl, rfl, by push_cast; rfl, HT2, trivial⟩
        case measure => simp [intOf]; omega
    · obtain rfl : k = len := by omega
      have HF : Hid (strip R.D = R.D.take n) := Lib.hid (by have := HS.out; rw [List.take_of_length_le (by rw [HL.out]; omega)] at this; exact this)
      clear HS
      go_wp2
      obtain ⟨w, rfl⟩ : ∃ w : World, w = wr := ⟨_, rfl⟩
      go_loopw [3, 6] (fun vo vi wq => ∃ (i : Nat) (v : Value), i ≤ n ∧ vi = .int .i64 (i : Int) ∧ vo = v ∧ Hid (Sl wq 5 .u8 v (R.D.take i)) ∧ Hid (∀ b, v.ownBlock = some b → w.heap.size ≤ b) ∧ Hid (Below w.heap.size w wq)) (fun _ vi _ => n - (intOf vi).toNat)
      case atStart => exact ⟨0, _, by omega, rfl, rfl, Sl.nil _ _ _, fun b hb => (by cases hb), Below.refl _ _⟩
      case round =>
        obtain ⟨i, v, hi, rfl, rfl, HS, HB, HW⟩ := hrel
        by_cases hlt2 : i < n
        · have hwq := HW.out.size
          have x0 : wr.cell? ⟨e, 0, none⟩ = some (.slice (some ⟨g, 0, none⟩) k c) := (HW.out.cell (p := ⟨e, 0, none⟩) hle).trans d0
          have ci := (A.out.row.below HW.out hlg).cell (i := i) (by rw [HL.out]; omega)
          have hy := HD.out _ (List.getElem_mem (show i < R.D.length by rw [HL.out]; omega))
          have HTk := Lib.hid (List.take_succ_eq_append_getElem (show i < R.D.length by rw [HL.out]; omega))
          have hli : (R.D.take i).length = i := by rw [List.length_take, HL.out]; omega
          have HLi := Lib.hid hli
          have ib : (i : Int) < (k : Int) := by omega
          generalize R.D[i]'(by rw [HL.out]; omega) = y at *
          clear hli
          go_wp2_with (first
            | (at_builtin; refine wpList_push (.tmp 30) (.tmp 39) 35 5 .u8 0 1 rfl rfl Try.underlying35 info_u8 _ (R.D.take i) i y ⟨wr.heap.size, 0, none⟩ (wr.heap.size + 1) rfl rfl (HS.out.alloc _) HLi.out ?_ ?_ ?_ ?_ ?_
               · exact (Blk.new wr _ _).cell (i := 0) rfl
               · simp
               · omega
               · omega
               intro g2 cap2 w2 hp
               have HP := Lib.hid hp
               clear hp))
          go_roundw
          case rel =>
            have hl2 : (R.D.take i ++ [y]).length = i + 1 := by rw [List.length_append, HLi.out]; rfl
            have hs := Sl.row HP.out.row
            rw [hl2, ← HTk.out] at hs
            refine ⟨i + 1, _, by omega, by push_cast; rfl, rfl, hs, fun b hb => ?_, ((HW.out.alloc hwq _).trans (HP.out.only.below (B := w.heap.size) (by simp; omega) (fun q hq => HB.out q hq)))⟩
            have e : g2 = b := Option.some.inj hb
            rcases HP.out.at_ with h | h
            · exact HB.out b (by rw [← e]; exact h)
            · omega
          case measure => simp [intOf]; omega
        · obtain rfl : i = n := by omega
          have d5 : decide ((i : Int) ≤ z) = false := decide_eq_false (by omega)
          go_wp2
          go_ret
          exact ⟨_, rfl, by rw [HF.out]; exact HS.out, HB.out, HW.out⟩
end Go.Proofs.Ytlbjoflmfboeeaa.Enc

/-
  The program's encoder and the document's hold one number: their bytes are the same. Plain theorems; no condition but those told.
-/
set_option linter.unusedVariables false
namespace Go.Proofs.Ytlbjoflmfboeeaa.Enc
open Go.RowKit Go.Proofs.Ytlbjoflmfboeeaa Go.Proofs.Ytlbjoflmfboeeaa.Dig

/-- The bytes that may still rise. -/
def pend (s : St) : List Int := (if s.be = true then [s.fi] else []) ++ List.replicate (s.he - 1) 255
def pre (s : St) : List Int := s.out ++ pend s
theorem pend_len (s : St) : (pend s).length = s.he - 1 + (if s.be = true then 1 else 0) := by
  unfold pend; split <;> simp
  try omega
theorem vl_rep255 (n : Nat) : vl (List.replicate n 255) = 256 ^ n - 1 := by
  induction n with
  | zero => simp [vl]
  | succ n ih => rw [List.replicate_succ', vl_snoc, ih, Int.pow_succ]; omega
theorem vl_rep0 (n : Nat) : vl (List.replicate n 0) = 0 := by
  induction n with
  | zero => rfl
  | succ n ih => rw [List.replicate_succ', vl_snoc, ih]; rfl
theorem pend_dig (s : St) (h0 : 0 ≤ s.fi) (h1 : s.fi ≤ 255) : ∀ x ∈ pend s, 0 ≤ x ∧ x ≤ 255 := by
  intro x hx
  unfold pend at hx
  rcases List.mem_append.1 hx with hx | hx
  · split at hx
    · simp at hx; omega
    · cases hx
  · have := List.eq_of_mem_replicate hx; omega
theorem pre_len (s : St) (h : 1 ≤ s.he) : (pre s).length = s.k := by
  unfold pre St.k
  rw [List.length_append, pend_len]
  omega
structure Sane (s : St) : Prop where
  lo0 : 0 ≤ s.lo
  lo1 : s.lo < 8589934592
  he0 : 1 ≤ s.he
  fi0 : 0 ≤ s.fi
  fi1 : s.fi ≤ 255
  dig : ∀ x ∈ s.out, 0 ≤ x ∧ x ≤ 255
  /-- What is in the way of what goes over, takes it. -/
  room : vl (pend s) + over s < 256 ^ (pend s).length
theorem flush_vl (s : St) (h : Sane s) : vl (flush s) = vl (pre s) + over s := by
  have ho : over s = 0 ∨ over s = 1 := by have := h.lo0; have := h.lo1; unfold over; omega
  have hr := h.room
  rcases ho with ho | ho
  · unfold flush pre pend
    rw [ho]
    have e1 : (s.fi + 0) % 256 = s.fi := by have := h.fi0; have := h.fi1; omega
    rw [e1, show ((255 : Int) + 0) % 256 = 255 from by decide]
    split <;> simp
  · by_cases hb : s.be = true
    · unfold flush pre
      unfold pend at hr ⊢
      rw [ho] at hr ⊢
      rw [if_pos hb] at hr ⊢
      rw [if_pos hb]
      rw [vl_append, vl_one, vl_rep255, List.length_replicate, List.length_append, List.length_replicate, List.length_singleton, Nat.add_comm 1, Int.pow_succ] at hr
      have hp := pow_pos256 (s.he - 1)
      have hfi : s.fi + 1 ≤ 255 := by
        generalize (256 : Int) ^ (s.he - 1) = p at *
        by_cases hf : s.fi + 1 ≤ 255
        · exact hf
        · have : 255 * p ≤ s.fi * p := Int.mul_le_mul_of_nonneg_right (by omega) (by omega)
          omega
      rw [show (s.fi + 1) % 256 = s.fi + 1 from by have := h.fi0; omega, show ((255 : Int) + 1) % 256 = 0 from by decide, List.append_assoc, vl_append, vl_append, vl_append, vl_append, vl_one, vl_one, vl_rep0, vl_rep255]
      simp only [List.length_append, List.length_singleton, List.length_replicate]
      rw [Int.add_mul]
      omega
    · unfold pend at hr
      rw [if_neg hb, List.nil_append, vl_rep255, List.length_replicate, ho] at hr
      omega
theorem flush_dig (s : St) (h : Sane s) : ∀ x ∈ flush s, 0 ≤ x ∧ x ≤ 255 := by
  intro x hx
  unfold flush at hx
  rcases List.mem_append.1 hx with hx | hx
  · split at hx
    · rcases List.mem_append.1 hx with hx | hx
      · exact h.dig x hx
      · simp at hx; omega
    · exact h.dig x hx
  · have := List.eq_of_mem_replicate hx; omega
/-- The number that an encoder holds. -/
def Val (s : St) : Int := vl (pre s) * 4294967296 + s.lo
theorem pre_loud (s : St) (hc : s.lo < 4278190080 ∨ 4294967296 ≤ s.lo) : pre (shiftS s) = flush s ++ [s.lo / 16777216 % 256] := by
  unfold shiftS; rw [if_pos hc]
  unfold pre pend
  simp
theorem pend_loud (s : St) (hc : s.lo < 4278190080 ∨ 4294967296 ≤ s.lo) : pend (shiftS s) = [s.lo / 16777216 % 256] := by
  unfold shiftS; rw [if_pos hc]
  unfold pend
  simp
theorem pend_calm (s : St) (h : 1 ≤ s.he) (hc : ¬ (s.lo < 4278190080 ∨ 4294967296 ≤ s.lo)) : pend (shiftS s) = pend s ++ [255] := by
  unfold shiftS; rw [if_neg hc]
  unfold pend
  simp only [Nat.add_sub_cancel]
  rw [List.append_assoc]
  congr 1
  have : s.he = s.he - 1 + 1 := by omega
  rw [← List.replicate_succ', ← this]
theorem pre_calm (s : St) (h : 1 ≤ s.he) (hc : ¬ (s.lo < 4278190080 ∨ 4294967296 ≤ s.lo)) : pre (shiftS s) = pre s ++ [255] := by
  unfold pre
  rw [pend_calm s h hc, ← List.append_assoc]
  congr 2
  unfold shiftS; rw [if_neg hc]
theorem shift_lo (s : St) : (shiftS s).lo = s.lo % 16777216 * 256 := by unfold shiftS; split <;> rfl
theorem shift_val (s : St) (h : Sane s) : Val (shiftS s) = Val s * 256 := by
  unfold Val
  rw [shift_lo]
  by_cases hc : s.lo < 4278190080 ∨ 4294967296 ≤ s.lo
  · rw [pre_loud s hc, vl_snoc, flush_vl s h]
    unfold over
    have := h.lo0; have := h.lo1
    omega
  · rw [pre_calm s h.he0 hc, vl_snoc]
    have := h.lo0; have := h.lo1
    omega
theorem shift_out_dig (s : St) (h : Sane s) : ∀ x ∈ (shiftS s).out, 0 ≤ x ∧ x ≤ 255 := by
  unfold shiftS
  split
  · exact flush_dig s h
  · exact h.dig
/-- Behind a shift nothing goes over. -/
theorem shift_sane (s : St) (h : Sane s) : Sane (shiftS s) := by
  have hl := shiftS_lo s
  have hh := shiftS_he s h.he0
  have hf := shiftS_fi s h.fi0 (by have := h.fi1; omega)
  refine ⟨hl.1, by omega, hh, hf.1, by omega, shift_out_dig s h, ?_⟩
  have e : over (shiftS s) = 0 := by unfold over; omega
  rw [e, Int.add_zero]
  exact vl_lt _ (pend_dig _ hf.1 (by omega))
theorem shifts_val (n : Nat) : ∀ (s : St), Sane s → Val (shifts n s) = Val s * 256 ^ n ∧ Sane (shifts n s) ∧ (shifts n s).k = s.k + n := by
  induction n with
  | zero => intro s h; exact ⟨by simp [shifts], h, rfl⟩
  | succ n ih =>
    intro s h
    obtain ⟨h1, h2, h3⟩ := ih (shiftS s) (shift_sane s h)
    refine ⟨?_, h2, ?_⟩
    · show Val (shifts n (shiftS s)) = _
      rw [h1, shift_val s h, Int.pow_succ, Int.mul_assoc, Int.mul_comm 256]
    · show (shifts n (shiftS s)).k = _
      rw [h3, shift_k s h.he0]; omega
theorem shifts_succ (n : Nat) : ∀ (s : St), shifts (n + 1) s = shiftS (shifts n s) := by
  induction n with
  | zero => intro s; rfl
  | succ n ih => intro s; show shifts (n + 1) (shiftS s) = _; rw [ih]; rfl
theorem lo4 (s : St) (h : 0 ≤ s.lo) : (shifts 4 s).lo = 0 := by
  show (shiftS (shiftS (shiftS (shiftS s)))).lo = 0
  rw [shift_lo, shift_lo, shift_lo, shift_lo]
  omega
/-- All bytes, behind five shifts. -/
theorem out_five (s : St) (h : Sane s) : vl (shifts 5 s).out = Val s ∧ (shifts 5 s).out.length = s.k + 4 ∧ ∀ x ∈ (shifts 5 s).out, 0 ≤ x ∧ x ≤ 255 := by
  obtain ⟨h1, h2, h3⟩ := shifts_val 4 s h
  have hl := lo4 s h.lo0
  rw [shifts_succ 4 s]
  have e : (shiftS (shifts 4 s)).out = flush (shifts 4 s) := by unfold shiftS; rw [if_pos (.inl (by rw [hl]; decide))]
  rw [e]
  refine ⟨?_, by rw [flush_len _ h2.he0, h3], flush_dig _ h2⟩
  rw [flush_vl _ h2]
  unfold Val at h1
  unfold over
  rw [hl] at h1 ⊢
  rw [show (256 : Int) ^ 4 = 4294967296 from by decide] at h1
  have e2 : Val s = vl (pre s) * 4294967296 + s.lo := rfl
  rw [e2]
  omega
/-- One number. -/
structure Rel (s : St) (R : RSt) : Prop where
  k : s.k = R.K
  sz : s.sz = R.S
  val : Val s = vl R.D
  lo0 : 0 ≤ s.lo
  sum : s.lo + s.sz < 8589934592
  he0 : 1 ≤ s.he
  fi0 : 0 ≤ s.fi
  fi1 : s.fi ≤ 255
  dig : ∀ x ∈ s.out, 0 ≤ x ∧ x ≤ 255
  top : vl (pend s) * 4294967296 + s.lo + s.sz ≤ 256 ^ (pend s).length * 4294967296
theorem Rel.sane {s : St} {R : RSt} (h : Rel s R) (hs : 0 < s.sz) : Sane s := by
  refine ⟨h.lo0, by have := h.sum; omega, h.he0, h.fi0, h.fi1, h.dig, ?_⟩
  have ht := h.top
  have hv := vl_lt _ (pend_dig s h.fi0 h.fi1)
  unfold over
  have := h.lo0
  have := h.sum
  omega
theorem fresh_rel : Rel fresh rfresh := ⟨rfl, rfl, by decide, by decide, by decide, by decide, by decide, by decide, (fun x hx => by cases hx), by decide⟩
theorem step_rel {s : St} {R : RSt} (h : Rel s R) (hs : 0 < s.sz) (hc : s.sz < 16777216) : Rel (step1 s) (rstep R) := by
  have hsane := h.sane hs
  obtain ⟨s', hs'⟩ : ∃ s' : St, s' = ⟨s.lo, s.sz * 256, s.he, s.fi, s.out, s.be⟩ := ⟨_, rfl⟩
  have e1 : step1 s = shiftS s' := by rw [hs']; rfl
  have p1 : pend s' = pend s := by rw [hs']; rfl
  have p2 : pre s' = pre s := by rw [hs']; rfl
  have p3 : s'.lo = s.lo := by rw [hs']
  have p4 : over s' = over s := by rw [hs']; rfl
  have p5 : s'.sz = s.sz * 256 := by rw [hs']
  have p6 : s'.k = s.k := by rw [hs']; rfl
  have hsane' : Sane s' := by
    refine ⟨by rw [p3]; exact hsane.lo0, by rw [p3]; exact hsane.lo1, by rw [hs']; exact hsane.he0, by rw [hs']; exact hsane.fi0, by rw [hs']; exact hsane.fi1, by rw [hs']; exact hsane.dig, ?_⟩
    rw [p1, p4]; exact hsane.room
  have hv : Val s' = Val s := by unfold Val; rw [p2, p3]
  have sh := shift_sane s' hsane'
  have hl := shiftS_lo s'
  have hz := shiftS_sz s'
  rw [e1]
  refine ⟨?_, ?_, ?_, sh.lo0, by rw [hz, p5]; omega, sh.he0, sh.fi0, sh.fi1, sh.dig, ?_⟩
  · rw [shift_k s' hsane'.he0, p6, h.k]; rfl
  · rw [hz, p5, h.sz]; rfl
  · rw [shift_val s' hsane', hv, h.val]
    show _ = vl (R.D ++ [0])
    rw [vl_snoc]; omega
  · have ht := h.top
    have hlo := h.lo0
    have hsum := h.sum
    rw [hz, p5, shift_lo, p3]
    by_cases hcc : s'.lo < 4278190080 ∨ 4294967296 ≤ s'.lo
    · rw [pend_loud s' hcc, vl_one, p3]
      rw [p3] at hcc
      simp only [List.length_singleton]
      rw [show (256 : Int) ^ 1 = 256 from rfl]
      omega
    · rw [pend_calm s' hsane'.he0 hcc, vl_snoc, List.length_append, List.length_singleton, Int.pow_succ, p1]
      rw [p3] at hcc
      generalize (256 : Int) ^ (pend s).length = p at *
      omega
theorem norm_rel (n : Nat) : ∀ (s : St) (R : RSt), Rel s R → 0 < s.sz → Rel (norm n s) (rnorm n R) := by
  induction n with
  | zero => intro s R h hs; exact h
  | succ n ih =>
    intro s R h hs
    unfold norm rnorm
    rw [← h.sz]
    by_cases hc : s.sz < 16777216
    · rw [if_pos hc, if_pos hc]
      exact ih _ _ (step_rel h hs hc) (by show 0 < (shiftS _).sz; rw [shiftS_sz]; show 0 < s.sz * 256; omega)
    · rw [if_neg hc, if_neg hc]; exact h
theorem put_rel {s : St} {R : RSt} (h : Rel s R) (g : RGood R) {lo ow al : Int} (may : May lo ow al) : Rel (putS s lo ow al) (rputS R lo ow al) := by
  obtain ⟨p0, p1, p2, p3⟩ := may
  obtain ⟨each, hE⟩ : ∃ each, each = R.S / al := ⟨_, rfl⟩
  have s0 := g.s0
  have s1 := g.s1
  have b3 := each_lo al R.S (by omega) p3 s0
  have b1 := mul_bd each lo al R.S hE (by omega) p0 (by omega) (by omega)
  have b2 := mul_bd each ow al R.S hE (by omega) (by omega) (by omega) (by omega)
  have b6 := mul_bd each (lo + ow) al R.S hE (by omega) (by omega) (by omega) (by omega)
  rw [Int.mul_add] at b6
  have b4 : each * 1 ≤ each * ow := Int.mul_le_mul_of_nonneg_left p1 (by omega)
  rw [Int.mul_one] at b4
  have hv : vl (addF 4 R.D R.K (each * lo)) = vl R.D + each * lo := by
    have := addF_vl 4 (by omega) R.D R.K (each * lo) g.len b1.1 (by show each * lo < 4294967296; omega)
    simpa using this
  have hcv := carF_vl (R.K + 3) (addF 4 R.D R.K (each * lo)) R.K (by rw [addF_len, g.len]; omega)
  unfold putS rputS
  rw [h.sz]
  rw [← hE] at b3 ⊢
  have hsz := h.sz
  refine norm_rel 2 _ _ ⟨h.k, rfl, ?_, by have := h.lo0; simp only; omega, by have := h.sum; simp only; omega, h.he0, h.fi0, h.fi1, h.dig, ?_⟩ (by simp only; omega)
  · simp only
    rw [hcv, hv, ← h.val]
    show vl (pre s) * 4294967296 + (s.lo + each * lo) = vl (pre s) * 4294967296 + s.lo + each * lo
    omega
  · have ht := h.top
    show vl (pend s) * 4294967296 + (s.lo + each * lo) + each * ow ≤ 256 ^ (pend s).length * 4294967296
    omega
/-- The same bytes. -/
theorem bytes_rel {s : St} {R : RSt} (h : Rel s R) (g : RGood R) : bytesS s = strip R.D := by
  have hs : 0 < s.sz := by rw [h.sz]; have := g.s0; omega
  obtain ⟨h1, h2, h3⟩ := out_five s (h.sane hs)
  unfold bytesS
  rw [vl_inj _ R.D (by rw [h2, g.len, h.k]) h3 g.dig (by rw [h1, h.val])]
theorem Rel.ready {s : St} {R : RSt} (h : Rel s R) (g : RGood R) : s.Ready :=
  ⟨h.lo0, h.sum, by rw [h.sz]; exact g.s0, by rw [h.sz]; exact g.s1, h.he0, h.fi0, by have := h.fi1; omega⟩
end Go.Proofs.Ytlbjoflmfboeeaa.Enc

/-
  Law 6: lives, and RangeencNil; no condition.
-/
set_option linter.unusedVariables false
set_option linter.unusedSimpArgs false
namespace Go.Proofs.Ytlbjoflmfboeeaa.Enc
open Go.RowKit Go.Proofs.Ytlbjoflmfboeeaa Go.Proofs.YtlbjoflmfboeeaaW.PrintWords Go.Proofs.Ytlbjoflmfboeeaa.Dig

theorem fresh_ready : fresh.Ready := fresh_rel.ready rfresh_good
theorem sl_ne {w : World} {e : TypeId} {k : IntKind} {v : Value} {xs : List Int} (h : Sl w e k v xs) (hp : 0 < xs.length) : ∃ g cap, v = .slice (some ⟨g, 0, none⟩) xs.length cap ∧ RowI w e k g cap xs := by
  rcases h with ⟨_, h⟩ | ⟨g, cap, rfl, h⟩
  · subst h; simp at hp
  · exact ⟨g, cap, rfl, h⟩
theorem may8 : May 0 1 256 ∧ May 128 1 256 := by unfold May; decide
theorem b0 : bytesS (bitsS fresh 0 8) = [] := by decide +kernel
theorem b128 : bytesS (bitsS fresh 128 8) = [127, 255, 255, 128] := by decide +kernel
theorem bits_ready (n : Int) (h0 : 0 ≤ n) (h1 : n < 256) : (bitsS fresh n 8).Ready ∧ (bitsS fresh n 8).k ≤ 2 := by
  have e : bitsS fresh n 8 = putS fresh n 1 256 := by
    unfold bitsS
    rw [if_neg (by omega), if_pos (by omega), show (2 : Int) ^ 8 = 256 from by decide, Int.emod_eq_of_lt h0 h1]
  rw [e]
  have := put_ready fresh_ready (lo := n) (ow := 1) (al := 256) ⟨h0, by omega, by omega, by omega⟩
  exact ⟨this.1, this.2.2⟩
theorem Is.drewB {w w' : World} {m : Nat} {s : St} {v : Value} (a : Is w m s v) (b : Below w.heap.size w w') : Is w' m s v := a.below b
attribute [local irreducible] bitsS putS bytesS
set_option maxHeartbeats 2000000 in
set_option maxRecDepth 100000 in
theorem lives_calls (w : World) : Calls Try.prog 15 #[] w fun e w' => e = .returned (.bool true) ∧ Below w.heap.size w w' := by
  have r0 := bits_ready 0 (by decide) (by decide)
  have r1 := bits_ready 128 (by decide) (by decide)
  have R0 := Lib.hid r0
  have R1 := Lib.hid r1
  clear r0 r1
  go_enter Try.func15, Try.ntmps15
  go_wp2_with fail
  refine (New_calls _).mono ?_
  rintro e1 w1 ⟨rfl, i1, b1⟩
  have I1 := Lib.hid i1
  have B1 := Lib.hid b1
  have s1 := b1.size
  have l1 := i1.blk.lt
  clear i1 b1
  go_wp2_with fail
  refine (New_calls _).mono ?_
  rintro e2 w2 ⟨rfl, i2, b2⟩
  have I2 := Lib.hid i2
  have I1b := Lib.hid (I1.out.below b2)
  have B2 : Hid (Below w.heap.size w w2) := Lib.hid (B1.out.trans (b2.mono s1))
  have s2 := b2.size
  have l2 := i2.blk.lt
  clear i2 b2 I1 B1
  go_wp2_with fail
  refine (Bits_yes I1b.out fresh_ready (by decide) 0 8 (by decide) (by decide) (by decide)).mono ?_
  rintro e3 w3 ⟨v3, rfl, i3, st3⟩
  have I3 := Lib.hid i3
  have I2b := Lib.hid (I2.out.only st3.only (fun h => by rcases h with h | h; omega; cases h) (fun g hg => by cases hg))
  have O3 := Lib.hid st3.own
  have B3 : Hid (Below w.heap.size w w3) := Lib.hid (B2.out.trans (st3.only.below (B := w.heap.size) (by omega) (fun i hi => by rcases hi with hi | hi; omega; cases hi)))
  have s3 := st3.only.size
  clear i3 st3 I1b I2 B2
  go_wp2_with fail
  refine (Bits_yes I2b.out fresh_ready (by decide) 128 8 (by decide) (by decide) (by decide)).mono ?_
  rintro e4 w4 ⟨v4, rfl, i4, st4⟩
  have I4 := Lib.hid i4
  have I3b := Lib.hid (I3.out.only st4.only (fun h => by rcases h with h | h; omega; cases h) (fun g hg h => by
    rcases O3.out g hg with h1 | h1
    · cases h1
    · rcases h with h | h
      · omega
      · cases h))
  have B4 : Hid (Below w.heap.size w w4) := Lib.hid (B3.out.trans (st4.only.below (B := w.heap.size) (by omega) (fun i hi => by rcases hi with hi | hi; omega; cases hi)))
  have s4 := st4.only.size
  clear i4 st4 I3 I2b B3
  have By0 := Lib.hid (Bytes_some I3b.out R0.out.1 (by have := R0.out.2; omega))
  rw [b0] at By0
  go_wp2_with fail
  refine By0.out.mono ?_
  rintro e5 w5 ⟨v5, rfl, sl5, _, b5⟩
  obtain ⟨A5, c5, hv5, _⟩ := sl5.form
  subst hv5
  have I5 := Lib.hid (I4.out.below b5)
  have B5 : Hid (Below w.heap.size w w5) := Lib.hid (B4.out.trans (b5.mono (by omega)))
  have s5 := b5.size
  clear sl5 b5 I4 B4 By0
  have By1 := Lib.hid (Bytes_some I5.out R1.out.1 (by have := R1.out.2; omega))
  rw [b128] at By1
  go_wp2_with fail
  refine By1.out.mono ?_
  rintro e6 w6 ⟨v6, rfl, sl6, _, b6⟩
  obtain ⟨g6, c6, hv6, rw6⟩ := sl_ne sl6 (by decide)
  subst hv6
  have I6 := Lib.hid (I5.out.below b6)
  have B6 : Hid (Below w.heap.size w w6) := Lib.hid (B5.out.trans (b6.mono (by omega)))
  have s6 := b6.size
  clear sl6 rw6 b6 I5 B5 By1
  have By2 := Lib.hid (Bytes_some I6.out R1.out.1 (by have := R1.out.2; omega))
  rw [b128] at By2
  go_wp2_with fail
  refine By2.out.mono ?_
  rintro e7 w7 ⟨v7, rfl, sl7, _, b7⟩
  obtain ⟨g7, c7, hv7, rw7⟩ := sl_ne sl7 (by decide)
  subst hv7
  have d7 : w7.cell? ⟨g7, 0, none⟩ = some (.int .u8 127) := rw7.cell (i := 0) (by decide)
  have B7 : Hid (Below w.heap.size w w7) := Lib.hid (B6.out.trans (b7.mono (by omega)))
  clear sl7 rw7 b7 I6 B6 By2
  go_wp2_with fail
  go_ret
  exact ⟨rfl, B7.out⟩
theorem lives_on {B : Nat} {w0 w : World} (h : Below B w0 w) (hB : B ≤ w.heap.size) : Calls Try.prog 15 #[] w fun e w' => e = .returned (.bool true) ∧ Below B w0 w' :=
  (lives_calls w).mono fun e w' ⟨he, hb⟩ => ⟨he, h.trans (hb.mono hB)⟩
set_option maxHeartbeats 2000000 in
set_option maxRecDepth 100000 in
theorem nil_calls (n wide s : Int) (w : World) : Calls Try.prog 3 #[.int .u32 n, .int .i64 wide, .int .i64 s] w fun e w' => e = .returned (.bool true) ∧ Below w.heap.size w w' := by
  go_enter Try.func3, Try.ntmps3
  go_wp2_with fail
  refine (lives_calls _).mono ?_
  rintro e1 w1 ⟨rfl, b1⟩
  have B1 := Lib.hid b1
  have s1 := b1.size
  clear b1
  go_wp2_with fail
  refine (Mdl.New_yes 3 (by decide) (by decide) _).mono ?_
  rintro e2 w2 ⟨m, h, rfl, hm, hh, i2, b2⟩
  have I2 := Lib.hid i2
  have B2 : Hid (Below w.heap.size w w2) := Lib.hid (B1.out.trans (b2.mono s1))
  have s2 := b2.size
  clear i2 b2 B1
  go_wp2_with fail
  refine (Put_none _ _ _ _ rfl _).mono ?_
  rintro e3 w3 ⟨rfl, b3⟩
  have I3 := Lib.hid (I2.out.only (Only.of_below b3 : Only (fun _ => False) _ _) (fun h => h) (fun h => h))
  have B3 : Hid (Below w.heap.size w w3) := Lib.hid (B2.out.trans (b3.mono (by omega)))
  have s3 := b3.size
  clear b3 B2 I2
  go_wp2_with fail
  refine (Bits_none _ _ _).mono ?_
  rintro e4 w4 ⟨rfl, rfl⟩
  go_wp2_with fail
  refine (Symbol_none I3.out (Mdl.good_new 3 (by decide) (by decide)) s).mono ?_
  rintro e5 w5 ⟨rfl, b5⟩
  have B5 : Hid (Below w.heap.size w w5) := Lib.hid (B3.out.trans (b5.mono (by omega)))
  have s5 := b5.size
  clear b5 B3
  go_wp2_with fail
  refine (Len_none _).mono ?_
  rintro e6 w6 ⟨rfl, rfl⟩
  go_wp2_with fail
  refine (Bytes_none _).mono ?_
  rintro e7 w7 ⟨rfl, rfl⟩
  go_wp2_with fail
  refine (New_calls _).mono ?_
  rintro e8 w8 ⟨rfl, _, b8⟩
  have B8 : Hid (Below w.heap.size w w8) := Lib.hid (B5.out.trans (b8.mono (by omega)))
  have s8 := b8.size
  clear b8 B5
  go_wp2_with fail
  refine (Symbol_nomodel _ _ _).mono ?_
  rintro e9 w9 ⟨rfl, b9⟩
  have B9 : Hid (Below w.heap.size w w9) := Lib.hid (B8.out.trans (b9.mono (by omega)))
  clear b9 B8
  go_wp2_with fail
  go_ret
  exact ⟨rfl, B9.out⟩
theorem nil_law (n wide s : Int) (w : World) (_ : (Lit.int .u32 n).wf = true) (_ : (Lit.int .i64 wide).wf = true) (_ : (Lit.int .i64 s).wf = true) : Calls Try.prog 3 #[.int .u32 n, .int .i64 wide, .int .i64 s] w fun e w' => e = .returned (.bool true) ∧ Below w.heap.size w w' := nil_calls n wide s w
end Go.Proofs.Ytlbjoflmfboeeaa.Enc

/-
  Words: all that was made, as a list of objects that lie apart. Plain theorems; no condition.
-/
set_option linter.unusedVariables false
namespace Go.Proofs.Ytlbjoflmfboeeaa
open Go.RowKit

theorem Sep.perm {w : World} {B : Nat} {l l' : List Ast} (p : l.Perm l') : ∀ U, Sep w B U l → Sep w B U l' := by
  induction p with
  | nil => exact fun _ h => h
  | cons A _ ih => exact fun U h => Sep.cons ih h
  | swap A B l => exact fun U h => h.swap
  | trans _ _ h1 h2 => exact fun U h => h2 U (h1 U h)
/-- Two objects as one. -/
def Ast.both (A1 A2 : Ast) : Ast where
  holds w F := ∃ F1 F2, A1.holds w F1 ∧ A2.holds w F2 ∧ (∀ k, F2 k → ¬ F1 k) ∧ F = fun k => F1 k ∨ F2 k
  lt := fun {w F k} ⟨F1, F2, h1, h2, _, e⟩ hk => by
    subst e
    rcases hk with hk | hk
    · exact A1.lt h1 hk
    · exact A2.lt h2 hk
  move := fun {w w' F} ⟨F1, F2, h1, h2, h3, e⟩ hs => by
    subst e
    exact ⟨F1, F2, A1.move h1 fun k hk => hs k (.inl hk), A2.move h2 fun k hk => hs k (.inr hk), h3, rfl⟩
theorem Sep.both {w : World} {B : Nat} {U : Nat → Prop} {A1 A2 : Ast} {l : List Ast} (h : Sep w B U (A1 :: A2 :: l)) : Sep w B U (Ast.both A1 A2 :: l) := by
  obtain ⟨F1, h1, g1, F2, h2, g2, h3⟩ := h
  refine ⟨_, ⟨F1, F2, h1, h2, fun k hk e => (g2 k hk).2 (.inr e), rfl⟩, fun k hk => ?_, Sep.weak (fun k hk => ?_) h3⟩
  · rcases hk with hk | hk
    · exact g1 k hk
    · exact ⟨(g2 k hk).1, fun e => (g2 k hk).2 (.inl e)⟩
  · rcases hk with hk | hk | hk
    · exact .inl (.inl hk)
    · exact .inl (.inr hk)
    · exact .inr hk
theorem Sep.apart {w : World} {B : Nat} {U : Nat → Prop} {A1 A2 : Ast} {l : List Ast} (h : Sep w B U (Ast.both A1 A2 :: l)) : Sep w B U (A1 :: A2 :: l) := by
  obtain ⟨F, ⟨F1, F2, h1, h2, h3, rfl⟩, g, h4⟩ := h
  refine ⟨F1, h1, fun k hk => g k (.inl hk), F2, h2, fun k hk => ⟨(g k (.inr hk)).1, fun e => ?_⟩, Sep.weak (fun k hk => ?_) h4⟩
  · rcases e with e | e
    · exact (g k (.inr hk)).2 e
    · exact h3 k hk e
  · rcases hk with (hk | hk) | hk
    · exact .inl hk
    · exact .inr (.inl hk)
    · exact .inr (.inr hk)
theorem front_perm : ∀ (l : List Ast) (i : Nat) (hi : i < l.length), l.Perm (l[i] :: l.eraseIdx i)
  | A :: l, 0, _ => List.Perm.refl _
  | A :: l, i + 1, hi => ((front_perm l i (by simpa using hi)).cons A).trans (List.Perm.swap _ _ _)
/-- What was there at first is as it was; these objects, made since, lie apart. -/
def Hp (W w : World) (l : List Ast) : Prop := Below W.heap.size W w ∧ Sep w W.heap.size Em l
section
variable {W w w' : World} {A A' A1 A2 A1' A2' : Ast} {l l' : List Ast}
theorem Hp.nil (W : World) : Hp W W [] := ⟨Below.refl _ _, trivial⟩
theorem Hp.b (h : Hp W w l) : Below W.heap.size W w := h.1
theorem Hp.size (h : Hp W w l) : W.heap.size ≤ w.heap.size := h.1.size
theorem Hp.perm (h : Hp W w l) (p : l.Perm l') : Hp W w l' := ⟨h.1, Sep.perm p _ h.2⟩
theorem Hp.front (h : Hp W w l) (i : Nat) (hi : i < l.length) : Hp W w (l[i] :: l.eraseIdx i) := h.perm (front_perm l i hi)
theorem Hp.back (h : Hp W w (A :: l)) (i : Nat) (hi : i ≤ l.length) : Hp W w (l.insertIdx i A) := h.perm (List.perm_insertIdx A l hi).symm
theorem Hp.swap (h : Hp W w (A1 :: A2 :: l)) : Hp W w (A2 :: A1 :: l) := ⟨h.1, h.2.swap⟩
theorem Hp.up1 {B0 C : Ast} (h : Hp W w (B0 :: C :: l)) : Hp W w (C :: B0 :: l) := h.front 1 (by simp)
theorem Hp.down1 {B0 C : Ast} (h : Hp W w (C :: B0 :: l)) : Hp W w (B0 :: C :: l) := h.back 1 (by simp)
theorem Hp.up2 {B0 B1 C : Ast} (h : Hp W w (B0 :: B1 :: C :: l)) : Hp W w (C :: B0 :: B1 :: l) := h.front 2 (by simp)
theorem Hp.down2 {B0 B1 C : Ast} (h : Hp W w (C :: B0 :: B1 :: l)) : Hp W w (B0 :: B1 :: C :: l) := h.back 2 (by simp)
theorem Hp.up3 {B0 B1 B2 C : Ast} (h : Hp W w (B0 :: B1 :: B2 :: C :: l)) : Hp W w (C :: B0 :: B1 :: B2 :: l) := h.front 3 (by simp)
theorem Hp.down3 {B0 B1 B2 C : Ast} (h : Hp W w (C :: B0 :: B1 :: B2 :: l)) : Hp W w (B0 :: B1 :: B2 :: C :: l) := h.back 3 (by simp)
theorem Hp.up4 {B0 B1 B2 B3 C : Ast} (h : Hp W w (B0 :: B1 :: B2 :: B3 :: C :: l)) : Hp W w (C :: B0 :: B1 :: B2 :: B3 :: l) := h.front 4 (by simp)
theorem Hp.down4 {B0 B1 B2 B3 C : Ast} (h : Hp W w (C :: B0 :: B1 :: B2 :: B3 :: l)) : Hp W w (B0 :: B1 :: B2 :: B3 :: C :: l) := h.back 4 (by simp)
theorem Hp.up5 {B0 B1 B2 B3 B4 C : Ast} (h : Hp W w (B0 :: B1 :: B2 :: B3 :: B4 :: C :: l)) : Hp W w (C :: B0 :: B1 :: B2 :: B3 :: B4 :: l) := h.front 5 (by simp)
theorem Hp.down5 {B0 B1 B2 B3 B4 C : Ast} (h : Hp W w (C :: B0 :: B1 :: B2 :: B3 :: B4 :: l)) : Hp W w (B0 :: B1 :: B2 :: B3 :: B4 :: C :: l) := h.back 5 (by simp)
theorem Hp.up6 {B0 B1 B2 B3 B4 B5 C : Ast} (h : Hp W w (B0 :: B1 :: B2 :: B3 :: B4 :: B5 :: C :: l)) : Hp W w (C :: B0 :: B1 :: B2 :: B3 :: B4 :: B5 :: l) := h.front 6 (by simp)
theorem Hp.down6 {B0 B1 B2 B3 B4 B5 C : Ast} (h : Hp W w (C :: B0 :: B1 :: B2 :: B3 :: B4 :: B5 :: l)) : Hp W w (B0 :: B1 :: B2 :: B3 :: B4 :: B5 :: C :: l) := h.back 6 (by simp)
theorem Hp.up7 {B0 B1 B2 B3 B4 B5 B6 C : Ast} (h : Hp W w (B0 :: B1 :: B2 :: B3 :: B4 :: B5 :: B6 :: C :: l)) : Hp W w (C :: B0 :: B1 :: B2 :: B3 :: B4 :: B5 :: B6 :: l) := h.front 7 (by simp)
theorem Hp.down7 {B0 B1 B2 B3 B4 B5 B6 C : Ast} (h : Hp W w (C :: B0 :: B1 :: B2 :: B3 :: B4 :: B5 :: B6 :: l)) : Hp W w (B0 :: B1 :: B2 :: B3 :: B4 :: B5 :: B6 :: C :: l) := h.back 7 (by simp)
theorem Hp.up8 {B0 B1 B2 B3 B4 B5 B6 B7 C : Ast} (h : Hp W w (B0 :: B1 :: B2 :: B3 :: B4 :: B5 :: B6 :: B7 :: C :: l)) : Hp W w (C :: B0 :: B1 :: B2 :: B3 :: B4 :: B5 :: B6 :: B7 :: l) := h.front 8 (by simp)
theorem Hp.down8 {B0 B1 B2 B3 B4 B5 B6 B7 C : Ast} (h : Hp W w (C :: B0 :: B1 :: B2 :: B3 :: B4 :: B5 :: B6 :: B7 :: l)) : Hp W w (B0 :: B1 :: B2 :: B3 :: B4 :: B5 :: B6 :: B7 :: C :: l) := h.back 8 (by simp)
theorem Hp.up9 {B0 B1 B2 B3 B4 B5 B6 B7 B8 C : Ast} (h : Hp W w (B0 :: B1 :: B2 :: B3 :: B4 :: B5 :: B6 :: B7 :: B8 :: C :: l)) : Hp W w (C :: B0 :: B1 :: B2 :: B3 :: B4 :: B5 :: B6 :: B7 :: B8 :: l) := h.front 9 (by simp)
theorem Hp.down9 {B0 B1 B2 B3 B4 B5 B6 B7 B8 C : Ast} (h : Hp W w (C :: B0 :: B1 :: B2 :: B3 :: B4 :: B5 :: B6 :: B7 :: B8 :: l)) : Hp W w (B0 :: B1 :: B2 :: B3 :: B4 :: B5 :: B6 :: B7 :: B8 :: C :: l) := h.back 9 (by simp)
theorem Hp.drop (h : Hp W w (A :: l)) : Hp W w l := ⟨h.1, h.2.tail⟩
/-- Some of the objects, each told by its place among those that are left. -/
def pick : List Nat → List Ast → List Ast
  | [], _ => []
  | i :: is, l => match l[i]? with
    | some A => A :: pick is (l.eraseIdx i)
    | none => []
theorem Sep.pick {w : World} {B : Nat} (is : List Nat) : ∀ (l : List Ast) (U : Nat → Prop), Sep w B U l → Sep w B U (pick is l) := by
  induction is with
  | nil => intro l U h; exact trivial
  | cons i is ih =>
    intro l U h
    unfold Go.Proofs.Ytlbjoflmfboeeaa.pick
    by_cases hi : i < l.length
    · rw [List.getElem?_eq_getElem hi]
      exact Sep.cons (fun U => ih _ U) (Sep.perm (front_perm l i hi) U h)
    · rw [List.getElem?_eq_none (by omega)]
      exact trivial
theorem Hp.pk (h : Hp W w l) (is : List Nat) : Hp W w (pick is l) := ⟨h.1, Sep.pick is l _ h.2⟩
/-- What turns nothing that was there. -/
theorem Hp.keep (h : Hp W w l) (b : Below w.heap.size w w') : Hp W w' l := ⟨h.1.trans (b.mono h.1.size), Sep.only (Only.of_below b : Only (fun _ => False) w w') (fun _ e => e.elim) h.2⟩
theorem Hp.drewN (h : Hp W w l) (n : Nat) : Hp W (w.drewN n) l := h.keep ⟨rfl, rfl, rfl, Nat.le_refl _, fun _ _ => rfl⟩
theorem Hp.drew (h : Hp W w l) : Hp W w.drew l := h.drewN 1
theorem Hp.alloc (h : Hp W w l) (o : Obj) : Hp W (w.alloc o) l := h.keep ((Below.refl _ _).alloc (Nat.le_refl _) o)
theorem Hp.open1 (h : Hp W w (A :: l)) : ∃ F, A.holds w F ∧ (∀ k, F k → W.heap.size ≤ k ∧ k < w.heap.size) ∧
    ∀ {w' : World} {A' : Ast} {F' : Nat → Prop}, Only F w w' → A'.holds w' F' → (∀ k, F' k → F k ∨ w.heap.size ≤ k) → Hp W w' (A' :: l) := by
  obtain ⟨b, F, h1, h2, h3⟩ := h
  refine ⟨F, h1, fun k hk => ⟨(h2 k hk).1, A.lt h1 hk⟩, fun ho h' hs => ⟨b.trans (ho.below b.size fun k hk => (h2 k hk).1), ?_⟩⟩
  exact Sep.turn h2 h3 (fun _ e => e.elim) b.size ho h' hs
/-- Two objects, both turned. -/
theorem Hp.open2 (h : Hp W w (A1 :: A2 :: l)) : ∃ F1 F2, A1.holds w F1 ∧ A2.holds w F2 ∧ (∀ k, F1 k → W.heap.size ≤ k ∧ k < w.heap.size) ∧ (∀ k, F2 k → W.heap.size ≤ k ∧ k < w.heap.size) ∧ (∀ k, F2 k → ¬ F1 k) ∧
    ∀ {w' : World} {A1' A2' : Ast} {F1' F2' : Nat → Prop}, Only (fun k => F1 k ∨ F2 k) w w' → A1'.holds w' F1' → A2'.holds w' F2' → (∀ k, F1' k → F1 k ∨ w.heap.size ≤ k) → (∀ k, F2' k → F2 k ∨ w.heap.size ≤ k) → (∀ k, F2' k → ¬ F1' k) → Hp W w' (A1' :: A2' :: l) := by
  have hb : Hp W w (Ast.both A1 A2 :: l) := ⟨h.1, h.2.both⟩
  obtain ⟨F, ⟨F1, F2, h1, h2, h3, rfl⟩, h4, K⟩ := hb.open1
  refine ⟨F1, F2, h1, h2, fun k hk => h4 k (.inl hk), fun k hk => h4 k (.inr hk), h3, fun {w' A1' A2' F1' F2'} ho k1 k2 s1 s2 d => ?_⟩
  have := K (A' := Ast.both A1' A2') ho ⟨F1', F2', k1, k2, d, rfl⟩ (fun k hk => by
    rcases hk with hk | hk
    · exact (s1 k hk).imp .inl id
    · exact (s2 k hk).imp .inr id)
  exact ⟨this.1, this.2.apart⟩
theorem Hp.apart (h : Hp W w (Ast.both A1 A2 :: l)) : Hp W w (A1 :: A2 :: l) := ⟨h.1, h.2.apart⟩
theorem Hp.both (h : Hp W w (A1 :: A2 :: l)) : Hp W w (Ast.both A1 A2 :: l) := ⟨h.1, h.2.both⟩
/-- Two objects, the second one only read. -/
theorem Hp.open1r (h : Hp W w (A1 :: A2 :: l)) : ∃ F1 F2, A1.holds w F1 ∧ A2.holds w F2 ∧ (∀ k, F1 k → W.heap.size ≤ k ∧ k < w.heap.size) ∧ (∀ k, F2 k → W.heap.size ≤ k ∧ k < w.heap.size) ∧ (∀ k, F2 k → ¬ F1 k) ∧
    ∀ {w' : World} {A1' : Ast} {F1' : Nat → Prop}, Only F1 w w' → A1'.holds w' F1' → (∀ k, F1' k → F1 k ∨ w.heap.size ≤ k) → Hp W w' (A1' :: A2 :: l) := by
  obtain ⟨F1, F2, h1, h2, g1, g2, h3, K⟩ := h.open2
  refine ⟨F1, F2, h1, h2, g1, g2, h3, fun {w' A1' F1'} ho k1 s1 => K (ho.mono fun k hk => .inl hk) k1 (A2.move h2 fun k hk => ho.block k (g2 k hk).2 (h3 k hk)) s1 (fun k hk => .inl hk) (fun k hk e => ?_)⟩
  rcases s1 k e with e | e
  · exact h3 k hk e
  · have := (g2 k hk).2; omega
/-- Three objects, the second and the third one only read. -/
theorem Hp.open1rr {A3 : Ast} (h : Hp W w (A1 :: A2 :: A3 :: l)) : ∃ F1 F2 F3, A1.holds w F1 ∧ A2.holds w F2 ∧ A3.holds w F3 ∧ (∀ k, F1 k → W.heap.size ≤ k ∧ k < w.heap.size) ∧ (∀ k, F2 k → W.heap.size ≤ k ∧ k < w.heap.size) ∧ (∀ k, F3 k → W.heap.size ≤ k ∧ k < w.heap.size) ∧ (∀ k, F2 k → ¬ F1 k) ∧ (∀ k, F3 k → ¬ F1 k) ∧ (∀ k, F3 k → ¬ F2 k) ∧
    ∀ {w' : World} {A1' : Ast} {F1' : Nat → Prop}, Only F1 w w' → A1'.holds w' F1' → (∀ k, F1' k → F1 k ∨ w.heap.size ≤ k) → Hp W w' (A1' :: A2 :: A3 :: l) := by
  have hb : Hp W w (A1 :: Ast.both A2 A3 :: l) := ⟨h.1, Sep.cons (fun _ => Sep.both) h.2⟩
  obtain ⟨F1, F, h1, ⟨F2, F3, h2, h3, d, rfl⟩, g1, g2, ne, K⟩ := hb.open1r
  refine ⟨F1, F2, F3, h1, h2, h3, g1, fun k hk => g2 k (.inl hk), fun k hk => g2 k (.inr hk), fun k hk => ne k (.inl hk), fun k hk => ne k (.inr hk), d, fun {w' A1' F1'} ho k1 s1 => ?_⟩
  have := K ho k1 s1
  exact ⟨this.1, Sep.cons (fun _ => Sep.apart) this.2⟩
/-- A new object. -/
theorem Hp.new {F' : Nat → Prop} (h : Hp W w l) (b : Below w.heap.size w w') (h' : A'.holds w' F') (hn : ∀ k, F' k → w.heap.size ≤ k) : Hp W w' (A' :: l) :=
  ⟨h.1.trans (b.mono h.1.size), Sep.new h.2 h.1.size b h' hn⟩
/-- An object is turned, whatever it is. -/
theorem Hp.turn (h : Hp W w (A :: l)) (k : ∀ F, A.holds w F → Only F w w' ∧ ∃ F', A'.holds w' F' ∧ ∀ i, F' i → F i ∨ w.heap.size ≤ i) : Hp W w' (A' :: l) := by
  obtain ⟨F, h1, _, K⟩ := h.open1
  obtain ⟨h2, F', h3, h4⟩ := k F h1
  exact K h2 h3 h4
/-- The same object, told otherwise. -/
theorem Hp.say (h : Hp W w (A :: l)) (k : ∀ F, A.holds w F → A'.holds w F) : Hp W w (A' :: l) := h.turn fun F hF => ⟨Only.refl _ _, F, k F hF, fun _ h => .inl h⟩
end
/-- A row of numbers. -/
def rowA (t : TypeId) (k : IntKind) (g cap : Nat) (xs : List Int) : Ast where
  holds w F := RowI w t k g cap xs ∧ F = fun i => i = g
  lt := fun ⟨h, e⟩ hk => by subst e; subst hk; exact h.lt
  move := fun ⟨h, e⟩ hs => by subst e; exact ⟨h.of_same (hs _ rfl), rfl⟩
/-- A slice that owns its block, or is nil. -/
def slA (t : TypeId) (k : IntKind) (v : Value) (xs : List Int) : Ast where
  holds w F := Sl w t k v xs ∧ F = fun i => v.ownBlock = some i
  lt := fun ⟨h, e⟩ hk => by subst e; exact h.lt hk
  move := fun ⟨h, e⟩ hs => by subst e; exact ⟨h.of_same fun g hg => hs g hg, rfl⟩
/-- A block known whole. -/
def blkA (g : Nat) (t : TypeId) (cs : Array Value) : Ast where
  holds w F := Blk w g t cs ∧ F = fun i => i = g
  lt := fun ⟨h, e⟩ hk => by subst e; subst hk; exact h.lt
  move := fun ⟨h, e⟩ hs => by subst e; exact ⟨h.of_same (hs _ rfl), rfl⟩
section
variable {W w w' : World} {t : TypeId} {k : IntKind} {g cap : Nat} {xs : List Int} {v : Value} {cs : Array Value} {l : List Ast}
theorem Hp.row (h : Hp W w (rowA t k g cap xs :: l)) : RowI w t k g cap xs := by obtain ⟨F, h1, _⟩ := h.open1; exact h1.1
theorem Hp.row_ge (h : Hp W w (rowA t k g cap xs :: l)) : W.heap.size ≤ g ∧ g < w.heap.size := by obtain ⟨F, ⟨_, rfl⟩, h2, _⟩ := h.open1; exact h2 g rfl
theorem Hp.sl (h : Hp W w (slA t k v xs :: l)) : Sl w t k v xs := by obtain ⟨F, h1, _⟩ := h.open1; exact h1.1
theorem Hp.blk (h : Hp W w (blkA g t cs :: l)) : Blk w g t cs := by obtain ⟨F, h1, _⟩ := h.open1; exact h1.1
theorem Hp.blk_ge (h : Hp W w (blkA g t cs :: l)) : W.heap.size ≤ g ∧ g < w.heap.size := by obtain ⟨F, ⟨_, rfl⟩, h2, _⟩ := h.open1; exact h2 g rfl
theorem Hp.row_sl (h : Hp W w (rowA t k g cap xs :: l)) {n : Nat} (hn : xs.length = n) : Hp W w (slA t k (.slice (some ⟨g, 0, none⟩) n cap) xs :: l) :=
  h.say fun F ⟨h1, h2⟩ => ⟨by subst hn; exact Sl.row h1, by subst h2; funext i; exact propext ⟨fun e => by subst e; rfl, fun e => by injection e with e; exact e.symm⟩⟩
theorem Hp.set (h : Hp W w (rowA t k g cap xs :: l)) (i : Nat) (x : Int) : Hp W (w.setCell ⟨g, i, none⟩ (.int k x)) (rowA t k g cap (xs.set i x) :: l) :=
  h.turn fun F ⟨h1, h2⟩ => ⟨(Only.refl F w).set (p := ⟨g, i, none⟩) (.inl (by subst h2; rfl)) _, F, ⟨h1.set i x, h2⟩, fun _ h => .inl h⟩
theorem Hp.bset (h : Hp W w (blkA g t cs :: l)) (i : Nat) (u : Value) : Hp W (w.setCell ⟨g, i, none⟩ u) (blkA g t (cs.setIfInBounds i u) :: l) :=
  h.turn fun F ⟨h1, h2⟩ => ⟨(Only.refl F w).set (p := ⟨g, i, none⟩) (.inl (by subst h2; rfl)) _, F, ⟨h1.set i u, h2⟩, fun _ h => .inl h⟩
theorem Hp.new_row (h : Hp W w l) (t : TypeId) (k : IntKind) (n : Nat) (x : Int) (hn : n ≤ maxLen) : Hp W (w.alloc (.cells (madeCells #[.int k x] n) t)) (rowA t k w.heap.size n (List.replicate n x) :: l) :=
  h.new ((Below.refl _ _).alloc (Nat.le_refl _) _) (A' := rowA t k w.heap.size n (List.replicate n x)) ⟨RowI.new w t k n x hn, rfl⟩ (fun i e => by subst e; exact Nat.le_refl _)
theorem Hp.new_blk (h : Hp W w l) (t : TypeId) (cs : Array Value) : Hp W (w.alloc (.cells cs t)) (blkA w.heap.size t cs :: l) :=
  h.new ((Below.refl _ _).alloc (Nat.le_refl _) _) (A' := blkA w.heap.size t cs) ⟨Blk.new w t cs, rfl⟩ (fun i e => by subst e; exact Nat.le_refl _)
/-- A row that a callee made. -/
theorem Hp.add_row (h : Hp W w l) (b : Below w.heap.size w w') (r : RowI w' t k g cap xs) (hg : w.heap.size ≤ g) : Hp W w' (rowA t k g cap xs :: l) :=
  h.new b (A' := rowA t k g cap xs) ⟨r, rfl⟩ (fun i e => by subst e; exact hg)
theorem Hp.add_sl (h : Hp W w l) (b : Below w.heap.size w w') (r : Sl w' t k v xs) (hg : ∀ g, v.ownBlock = some g → w.heap.size ≤ g) : Hp W w' (slA t k v xs :: l) :=
  h.new b (A' := slA t k v xs) ⟨r, rfl⟩ (fun i e => hg i e)
theorem Hp.push (h : Hp W w (slA t k v xs :: l)) {g cap H : Nat} {ys : List Int} (p : Pushed w w' t k v g cap ys H) (hH : w.heap.size ≤ H) : Hp W w' (rowA t k g cap ys :: l) :=
  h.turn fun F ⟨h1, h2⟩ => ⟨by subst h2; exact p.only, _, ⟨p.row, rfl⟩, fun i e => by
    subst e
    subst h2
    rcases p.at_ with h | h
    · exact .inl h
    · right; omega⟩
end
/-- The text of bytes. -/
theorem Src.str {P : Program} {w : World} {src dst e : TypeId} (hs : P.underlying src = some (.slice e)) (he : P.underlying e = some (.int .u8)) (hd : P.underlying dst = some .string) {u : Value} {xs : List Int} (h : Src w .u8 u xs) :
    (convert src dst u).run P w = .ok (.string (strOfNums xs)) w := by
  obtain ⟨A, c, rfl, h⟩ := h
  rw [run_convert_bytes_string w src dst e A xs.length c hs he hd]
  cases A with
  | none =>
    have h0 : xs = [] := by
      rcases Nat.eq_zero_or_pos xs.length with h0 | h0
      · exact List.eq_nil_of_length_eq_zero h0
      · obtain ⟨ad, e, _⟩ := h h0; cases e
    subst h0
    simp [Conv.bytesToString, strOfNums]
    rfl
  | some a =>
    have hl : (loadCells a xs.length).run P w = .ok (xs.map (Value.int .u8)).toArray w := by
      have := run_loadCells_list (P := P) w a (xs.map (Value.int .u8)) (fun j v hj => by
        have hjl : j < xs.length := by
          rcases Nat.lt_or_ge j xs.length with h | h
          · exact h
          · simp [List.getElem?_eq_none (show (xs.map (Value.int .u8)).length ≤ j by simpa using h)] at hj
        obtain ⟨ad, e, hc⟩ := h (by omega)
        injection e with e
        subst e
        rw [hc j hjl]
        simp [List.getElem?_eq_getElem hjl] at hj
        rw [← hj])
      simpa using this
    rw [run_bytesToString w a xs.length c xs hl, foldl_push_bytes]
    simp [strOfNums, ByteArray.empty, ByteArray.emptyWithCapacity]
    rfl
end Go.Proofs.Ytlbjoflmfboeeaa

/-
  Symbols and bits keep what was told of the two encoders. Plain theorems; no condition but those told.
-/
set_option linter.unusedVariables false
namespace Go.Proofs.Ytlbjoflmfboeeaa.Enc
open Go.RowKit Go.Proofs.Ytlbjoflmfboeeaa Go.Proofs.Ytlbjoflmfboeeaa.Dig

theorem fresh_rdy : fresh.Ready := fresh_rel.ready rfresh_good
theorem may_bits (n : Int) {j : Nat} (h : j ≤ 12) : May (n % 2 ^ j) 1 (2 ^ j) := by
  have h3 : (0 : Int) < 2 ^ j := Int.pow_pos (by omega)
  have h4 := Nat.pow_le_pow_right (show 0 < 2 by decide) h
  have h5 : (2 : Int) ^ j ≤ 2 ^ 12 := by exact_mod_cast h4
  have e12 : (2 : Int) ^ 12 = 4096 := by decide
  have := Int.emod_nonneg n (show (2 : Int) ^ j ≠ 0 by omega)
  have := Int.emod_lt_of_pos n h3
  exact ⟨by omega, by omega, by omega, by omega⟩
theorem may_bits12 (n : Int) : May (n % 4096) 1 4096 := by refine ⟨?_, ?_, ?_, ?_⟩ <;> omega
theorem bitsS_ready {s : St} (ok : s.Ready) (n : Int) (w : Nat) (hw : w ≤ 24) : (bitsS s n w).Ready ∧ s.k ≤ (bitsS s n w).k ∧ (bitsS s n w).k ≤ s.k + 4 := by
  unfold bitsS
  split
  · exact ⟨ok, Nat.le_refl _, Nat.le_add_right _ _⟩
  · split
    · rename_i h0 h1
      obtain ⟨r1, r2, r3⟩ := put_ready ok (may_bits n h1)
      exact ⟨r1, r2, Nat.le_trans r3 (by omega)⟩
    · rename_i h0 h1
      obtain ⟨r1, r2, r3⟩ := put_ready ok (may_bits12 (n / 2 ^ (w - 12)))
      obtain ⟨q1, q2, q3⟩ := put_ready r1 (may_bits n (show w - 12 ≤ 12 by omega))
      exact ⟨q1, Nat.le_trans r2 q2, Nat.le_trans q3 (by omega)⟩
theorem rbitsS_good {R : RSt} (ok : RGood R) (n : Int) (w : Nat) (hw : w ≤ 24) : RGood (rbitsS R n w) ∧ R.K ≤ (rbitsS R n w).K ∧ (rbitsS R n w).K ≤ R.K + 4 := by
  unfold rbitsS
  split
  · exact ⟨ok, Nat.le_refl _, Nat.le_add_right _ _⟩
  · split
    · rename_i h0 h1
      obtain ⟨r1, r2, r3⟩ := rput_good ok (may_bits n h1)
      exact ⟨r1, r2, Nat.le_trans r3 (by omega)⟩
    · rename_i h0 h1
      obtain ⟨r1, r2, r3⟩ := rput_good ok (may_bits12 (n / 2 ^ (w - 12)))
      obtain ⟨q1, q2, q3⟩ := rput_good r1 (may_bits n (show w - 12 ≤ 12 by omega))
      exact ⟨q1, Nat.le_trans r2 q2, Nat.le_trans q3 (by omega)⟩
theorem bitsS_rel {s : St} {R : RSt} (h : Rel s R) (g : RGood R) (n : Int) (w : Nat) (hw : w ≤ 24) : Rel (bitsS s n w) (rbitsS R n w) := by
  unfold bitsS rbitsS
  split
  · exact h
  · split
    · rename_i h0 h1
      exact put_rel h g (may_bits n h1)
    · rename_i h0 h1
      exact put_rel (put_rel h g (may_bits12 (n / 2 ^ (w - 12)))) (rput_good g (may_bits12 (n / 2 ^ (w - 12)))).1 (may_bits n (show w - 12 ≤ 12 by omega))
theorem symS_ready {s : St} (ok : s.Ready) {L : List Int} (good : Mdl.Good L) {k : Nat} (hk : k < L.length) : (symS s L k).Ready ∧ s.k ≤ (symS s L k).k ∧ (symS s L k).k ≤ s.k + 2 := put_ready ok (may_of good k hk)
theorem rsymS_good {R : RSt} (ok : RGood R) {L : List Int} (good : Mdl.Good L) {k : Nat} (hk : k < L.length) : RGood (rsymS R L k) ∧ R.K ≤ (rsymS R L k).K ∧ (rsymS R L k).K ≤ R.K + 2 := rput_good ok (may_of good k hk)
theorem symS_rel {s : St} {R : RSt} (h : Rel s R) (g : RGood R) {L : List Int} (good : Mdl.Good L) {k : Nat} (hk : k < L.length) : Rel (symS s L k) (rsymS R L k) := put_rel h g (may_of good k hk)
theorem strip_sub (l : List Int) : (∀ x ∈ strip l, x ∈ l) ∧ (strip l).length ≤ l.length := by
  unfold strip
  have h : l.reverse.dropWhile (fun x => x == 0) <:+ l.reverse := List.dropWhile_suffix _
  refine ⟨fun x hx => ?_, ?_⟩
  · rw [List.mem_reverse] at hx
    have := h.subset hx
    rwa [List.mem_reverse] at this
  · rw [List.length_reverse]
    have := h.length_le
    rwa [List.length_reverse] at this
theorem strip_pre (l : List Int) : ∃ n, l = strip l ++ List.replicate n 0 := by
  unfold strip
  refine ⟨(l.reverse.takeWhile (fun x => x == 0)).length, ?_⟩
  have h := List.takeWhile_append_dropWhile (p := fun x : Int => x == 0) (l := l.reverse)
  have h2 := congrArg List.reverse h
  rw [List.reverse_append, List.reverse_reverse] at h2
  have h3 : (l.reverse.takeWhile (fun x => x == 0)).reverse = List.replicate (l.reverse.takeWhile (fun x => x == 0)).length 0 := by
    rw [List.eq_replicate_iff]
    refine ⟨by simp, fun x hx => ?_⟩
    rw [List.mem_reverse] at hx
    have key : ∀ (l : List Int), x ∈ l.takeWhile (fun x => x == 0) → x = 0 := by
      intro l
      induction l with
      | nil => intro h; cases h
      | cons a l ih =>
        intro h
        rw [List.takeWhile_cons] at h
        by_cases ha : a = 0
        · subst ha
          rcases List.mem_cons.1 (by simpa using h) with h | h
          · exact h
          · exact ih h
        · simp [ha] at h
    exact key _ hx
  rw [h3] at h2
  exact h2.symm
/-- The bytes are bytes, and not many. -/
theorem bytes_byt {s : St} {R : RSt} (h : Rel s R) (g : RGood R) : (∀ x ∈ bytesS s, 0 ≤ x ∧ x ≤ 255) ∧ (bytesS s).length ≤ s.k + 4 := by
  rw [bytes_rel h g]
  have h2 := strip_sub R.D
  refine ⟨fun x hx => g.dig x (h2.1 x hx), ?_⟩
  have := h2.2
  rw [g.len] at this
  rw [h.k]; exact this
end Go.Proofs.Ytlbjoflmfboeeaa.Enc

/-
  The two decoders as one state, and the walks of the program's next, at, take, New; no condition but those told.
-/
set_option linter.unusedVariables false
set_option linter.unusedSimpArgs false
namespace Go.Proofs.Ytlbjoflmfboeeaa.Deco
open Go.RowKit Go.Proofs.Ytlbjoflmfboeeaa Go.Proofs.YtlbjoflmfboeeaaW.PrintWords

structure DSt where
  bs : List Int
  n : Nat
  co : Int
  sz : Int
/-- The byte that is taken next. -/
def bt (s : DSt) : Int := s.bs.getD s.n 0
def nextS (s : DSt) : DSt := ⟨s.bs, s.n + 1, s.co * 256 + bt s, s.sz⟩
def dnorm : Nat → DSt → DSt
  | 0, s => s
  | k + 1, s => if s.sz < 16777216 then dnorm k (nextS ⟨s.bs, s.n, s.co, s.sz * 256⟩) else s
def takeS (s : DSt) (lo ow al : Int) : DSt := dnorm 2 ⟨s.bs, s.n, min (s.co - s.sz / al * lo) (s.sz / al * ow - 1), s.sz / al * ow⟩
def atS (s : DSt) (al : Int) : Int := min (s.co / (s.sz / al)) (al - 1)
def openS (bs : List Int) : DSt := nextS (nextS (nextS (nextS ⟨bs, 0, 0, 4294967295⟩)))
def Byt (bs : List Int) : Prop := (∀ x ∈ bs, 0 ≤ x ∧ x ≤ 255) ∧ bs.length ≤ 1000000000
theorem bt_bd {s : DSt} (h : Byt s.bs) : 0 ≤ bt s ∧ bt s ≤ 255 := by
  unfold bt
  rw [List.getD_eq_getElem?_getD]
  by_cases hn : s.n < s.bs.length
  · rw [List.getElem?_eq_getElem hn]; exact h.1 _ (List.getElem_mem hn)
  · rw [List.getElem?_eq_none (by omega)]; decide
structure DSt.Ready (s : DSt) : Prop where
  by_ : Byt s.bs
  c0 : 0 ≤ s.co
  c1 : s.co ≤ s.sz
  s0 : 16777216 ≤ s.sz
  s1 : s.sz < 4294967296
/-- A decoder in memory: its struct's type and the kind of its numbers. -/
structure Is (w : World) (d : Nat) (t : TypeId) (k : IntKind) (s : DSt) (v : Value) : Prop where
  blk : Blk w d t #[v, .int .i64 s.n, .int k s.co, .int k s.sz]
  sl : Sl w 5 .u8 v s.bs
  ne : v.ownBlock ≠ some d
section
variable {w w' : World} {d : Nat} {t : TypeId} {k : IntKind} {s : DSt} {v : Value}
theorem Is.only {S : Nat → Prop} (a : Is w d t k s v) (o : Only S w w') (h1 : ¬ S d) (h2 : ∀ g, v.ownBlock = some g → ¬ S g) : Is w' d t k s v :=
  ⟨a.blk.of_same (o.block d a.blk.lt h1), a.sl.only o h2, a.ne⟩
theorem Is.below (a : Is w d t k s v) (b : Below w.heap.size w w') : Is w' d t k s v := a.only (Only.of_below b : Only (fun _ => False) _ _) (fun h => h) (fun _ _ h => h)
theorem Is.drew (a : Is w d t k s v) : Is w.drew d t k s v := ⟨a.blk.drew, a.sl.drew, a.ne⟩
theorem Is.drewN (a : Is w d t k s v) (n : Nat) : Is (w.drewN n) d t k s v := ⟨a.blk.drewN n, a.sl.drewN n, a.ne⟩
theorem Is.inc (a : Is w d t k s v) : Is (w.setCell ⟨d, 1, none⟩ (.int .i64 ((s.n : Int) + 1))) d t k ⟨s.bs, s.n + 1, s.co, s.sz⟩ v :=
  ⟨by have := a.blk.set 1 (.int .i64 ((s.n : Int) + 1)); simpa using this, a.sl.other (a := ⟨d, 1, none⟩) a.ne _, a.ne⟩
theorem Is.co_ (a : Is w d t k s v) (c : Int) : Is (w.setCell ⟨d, 2, none⟩ (.int k c)) d t k ⟨s.bs, s.n, c, s.sz⟩ v :=
  ⟨a.blk.set 2 (.int k c), a.sl.other (a := ⟨d, 2, none⟩) a.ne _, a.ne⟩
theorem Is.sz_ (a : Is w d t k s v) (z : Int) : Is (w.setCell ⟨d, 3, none⟩ (.int k z)) d t k ⟨s.bs, s.n, s.co, z⟩ v :=
  ⟨a.blk.set 3 (.int k z), a.sl.other (a := ⟨d, 3, none⟩) a.ne _, a.ne⟩
end
/-- Only this block turned. -/
abbrev At (d : Nat) : World → World → Prop := Only (fun i => i = d)
theorem At.refl (d : Nat) (w : World) : At d w w := Only.refl _ w
theorem At.cell {d : Nat} {w w' : World} (h : At d w w') (i : Nat) (u : Value) : At d w (w'.setCell ⟨d, i, none⟩ u) := Only.set h (p := ⟨d, i, none⟩) (.inl rfl) u
attribute [local irreducible] bt
set_option maxHeartbeats 2000000 in
set_option maxRecDepth 100000 in
theorem next_calls {w : World} {d : Nat} {s : DSt} {v : Value} (a : Is w d 120 .u32 s v) (hb : Byt s.bs) (c0 : 0 ≤ s.co) (c1 : s.co < 16777216) (hn : s.n ≤ 1000000000000) :
    Calls Try.prog 67 #[.pointer (some ⟨d, 0, none⟩)] w fun e w' => e = .returned (.tuple #[]) ∧ Is w' d 120 .u32 (nextS s) v ∧ At d w w' := by
  have hbt := bt_bd hb
  have HBt : Hid (bt s = s.bs.getD s.n 0) := Lib.hid (by unfold bt; rfl)
  have A := Lib.hid a
  obtain ⟨bs, n, co, sz⟩ := s
  simp only at *
  have d2 := a.blk.cell (i := 2) rfl
  have f2 := a.blk.free 2
  have hl := hb.2
  have HNx : Hid (nextS ⟨bs, n, co, sz⟩ = ⟨bs, n + 1, co * 256 + bt ⟨bs, n, co, sz⟩, sz⟩) := Lib.hid rfl
  generalize bt ⟨bs, n, co, sz⟩ = x at *
  clear a hb
  have e1 : IntKind.u32.wrap (co * 256) = co * 256 := Enc.wraps_u32 _ (by omega) (by omega)
  go_enter Try.func67, Try.ntmps67
  go_wp2
  have A2 := Lib.hid (A.out.co_ (co * 256))
  have O2 := Lib.hid ((At.refl d w).cell 2 (.int .u32 (co * 256)))
  clear d2 f2 A
  generalize w.setCell ⟨d, 2, none⟩ (.int .u32 (co * 256)) = w2 at *
  have d0 := A2.out.blk.cell (i := 0) rfl
  have d1 := A2.out.blk.cell (i := 1) rfl
  have d2 := A2.out.blk.cell (i := 2) rfl
  have f1 := A2.out.blk.free 1
  have f2 := A2.out.blk.free 2
  by_cases hc : n < bs.length
  · obtain ⟨g, cap, rfl, hr⟩ : ∃ g cap, v = .slice (some ⟨g, 0, none⟩) bs.length cap ∧ RowI w2 5 .u8 g cap bs := by
      rcases A2.out.sl with ⟨_, h⟩ | h
      · simp only at h; subst h; simp at hc
      · exact h
    have d3 := hr.cell hc
    have hx : bs[n] = x := by rw [HBt.out, List.getD_eq_getElem?_getD, List.getElem?_eq_getElem hc]; rfl
    rw [hx] at d3
    have e2 : bits .or .u32 (co * 256) x = co * 256 + x := bits_join .u32 32 (by decide) Enc.wraps_u32 8 _ _ (by omega) (by omega) (by omega) (by omega) (by omega) (by omega)
    have e3 : IntKind.u32.wrap x = x := Enc.wraps_u32 _ (by omega) (by omega)
    have HC := Lib.hid hc
    have i1 : (n : Int) < bs.length := by omega
    clear hr hx HBt
    go_quiet (fail)
    have A3 := Lib.hid (A2.out.drewN nq)
    have O3 := Lib.hid (O2.out.drewN nq)
    clear d0 d1 d2 f1 f2 A2 O2
    have d3 : (w2.drewN nq).cell? ⟨g, n, none⟩ = some (.int .u8 x) := d3
    generalize w2.drewN nq = w3 at *
    have d0 := A3.out.blk.cell (i := 0) rfl
    have d1 := A3.out.blk.cell (i := 1) rfl
    have d2 := A3.out.blk.cell (i := 2) rfl
    have f1 := A3.out.blk.free 1
    have f2 := A3.out.blk.free 2
    go_wp2
    go_still_tail 18, (by kernel_rfl)
    go_wp2
    rw [HNx.out]
    exact bodyPost_end (results_none rfl _ _ _) rfl ⟨rfl, (A3.out.co_ _).inc.drew, ((At.cell O3.out 2 _).cell 1 _).drew⟩
  · have hx : x = 0 := by rw [HBt.out, List.getD_eq_getElem?_getD, List.getElem?_eq_none (by omega)]; rfl
    have HC := Lib.hid hc
    subst hx
    rw [Int.add_zero] at HNx
    obtain ⟨ad, cap, rfl, _⟩ := A2.out.sl.form
    have i1 : ¬ (n : Int) < bs.length := by omega
    clear HBt
    go_quiet (fail)
    have A3 := Lib.hid (A2.out.drewN nq)
    have O3 := Lib.hid (O2.out.drewN nq)
    clear d0 d1 d2 f1 f2 A2 O2
    generalize w2.drewN nq = w3 at *
    have d1 := A3.out.blk.cell (i := 1) rfl
    have f1 := A3.out.blk.free 1
    go_wp2
    rw [HNx.out]
    exact bodyPost_end (results_none rfl _ _ _) rfl ⟨rfl, A3.out.inc, At.cell O3.out 1 _⟩
theorem at_calls {w : World} {d : Nat} {s : DSt} {v : Value} (a : Is w d 120 .u32 s v) (ok : s.Ready) (al : Int) (a0 : 1 ≤ al) (a1 : al ≤ 8192) :
    Calls Try.prog 70 #[.pointer (some ⟨d, 0, none⟩), .int .u32 al] w fun e w' => e = .returned (.int .u32 (atS s al)) ∧ ∃ n, w' = w.drewN n := by
  have d2 := a.blk.cell (i := 2) rfl
  have d3 := a.blk.cell (i := 3) rfl
  obtain ⟨each, hE⟩ : ∃ each, each = s.sz / al := ⟨_, rfl⟩
  have b3 := Enc.each_lo al s.sz a0 a1 ok.s0
  rw [← hE] at b3
  have HA : Hid (atS s al = min (s.co / each) (al - 1)) := Lib.hid (by unfold atS; rw [hE])
  have e1 : Int.tdiv s.sz al = each := by rw [hE, Int.tdiv_eq_ediv_of_nonneg (by have := ok.s0; omega)]
  have b5 : each ≤ s.sz := by rw [hE]; exact Int.ediv_le_self _ (by have := ok.s0; omega)
  obtain ⟨hb, c0, c1, s0, s1⟩ := ok
  obtain ⟨q, hq⟩ : ∃ q, q = s.co / each := ⟨_, rfl⟩
  have e2 : Int.tdiv s.co each = q := by rw [hq, Int.tdiv_eq_ediv_of_nonneg c0]
  have q0 : 0 ≤ q := by rw [hq]; exact Int.ediv_nonneg c0 (by omega)
  have q1 : q ≤ s.co := by rw [hq]; exact Int.ediv_le_self _ c0
  have e1' : s.sz / al = each := hE.symm
  have e2' : s.co / each = q := hq.symm
  rw [← hq] at HA
  have z1 : al ≠ 0 := by omega
  have z2 : (al == 0) = false := by rw [beq_eq_false_iff_ne]; omega
  have z3 : each ≠ 0 := by omega
  have z4 : (each == 0) = false := by rw [beq_eq_false_iff_ne]; omega
  have w1 : IntKind.u32.wrap each = each := Enc.wraps_u32 _ (by omega) (by omega)
  have w2 : IntKind.u32.wrap q = q := Enc.wraps_u32 _ (by omega) (by omega)
  have w3 : IntKind.u32.wrap (al - 1) = al - 1 := Enc.wraps_u32 _ (by omega) (by omega)
  clear hE hq a hb
  obtain ⟨bs, n, co, sz⟩ := s
  simp only at *
  go_enter Try.func70, Try.ntmps70
  go_wp2
  go_quiet (fail)
  by_cases h : al - 1 < q
  · have hm : min q (al - 1) = al - 1 := by omega
    rw [hm] at HA
    go_wp2
    go_ret
    rw [HA.out]
    exact ⟨rfl, nq, rfl⟩
  · have hm : min q (al - 1) = q := by omega
    rw [hm] at HA
    go_wp2
    go_ret
    rw [HA.out]
    exact ⟨rfl, nq, rfl⟩
set_option maxHeartbeats 4000000 in
set_option maxRecDepth 100000 in
theorem take_calls {w : World} {d : Nat} {s : DSt} {v : Value} (a : Is w d 120 .u32 s v) (ok : s.Ready) (lo ow al : Int) (may : Enc.May lo ow al) (le : s.sz / al * lo ≤ s.co) (hn : s.n ≤ 900000000000) :
    Calls Try.prog 71 #[.pointer (some ⟨d, 0, none⟩), Mdl.part lo ow al] w fun e w' => e = .returned (.tuple #[]) ∧ Is w' d 120 .u32 (takeS s lo ow al) v ∧ At d w w' := by
  obtain ⟨p0, p1, p2, p3⟩ := may
  have hd := a.blk.lt
  obtain ⟨each, hE⟩ : ∃ each, each = s.sz / al := ⟨_, rfl⟩
  obtain ⟨q, hq⟩ : ∃ q, q = each * lo := ⟨_, rfl⟩
  obtain ⟨r, hr⟩ : ∃ r, r = each * ow := ⟨_, rfl⟩
  have b1 := Enc.mul_bd each lo al s.sz hE (by omega) p0 (by omega) (by have := ok.s0; omega)
  have b2 := Enc.mul_bd each ow al s.sz hE (by omega) (by omega) (by omega) (by have := ok.s0; omega)
  have b3 := Enc.each_lo al s.sz (by omega) p3 ok.s0
  have b4 : each * 1 ≤ each * ow := Int.mul_le_mul_of_nonneg_left p1 (by omega)
  have b5 : each ≤ s.sz := by rw [hE]; exact Int.ediv_le_self _ (by have := ok.s0; omega)
  have HT : Hid (takeS s lo ow al = dnorm 2 ⟨s.bs, s.n, min (s.co - q) (r - 1), r⟩) := Lib.hid (by unfold takeS; rw [hq, hr, hE])
  have e1 : Int.tdiv s.sz al = each := by rw [hE, Int.tdiv_eq_ediv_of_nonneg (by have := ok.s0; omega)]
  have e1' : s.sz / al = each := hE.symm
  rw [← hE, ← hq] at le
  rw [← hE] at b3
  rw [← hq] at b1
  rw [← hr] at b2 b4
  rw [Int.mul_one] at b4
  have e2 : each * lo = q := hq.symm
  have e3 : each * ow = r := hr.symm
  have BY := Lib.hid ok.by_
  have A := Lib.hid a
  have d3 := a.blk.cell (i := 3) rfl
  obtain ⟨_, c0, c1, s0, s1⟩ := ok
  obtain ⟨bs, n, co, sz⟩ := s
  simp only at *
  have z1 : al ≠ 0 := by omega
  have z2 : (al == 0) = false := by rw [beq_eq_false_iff_ne]; omega
  have w1 : IntKind.u32.wrap each = each := Enc.wraps_u32 _ (by omega) (by omega)
  have w2 : IntKind.u32.wrap q = q := Enc.wraps_u32 _ (by omega) (by omega)
  have w3 : IntKind.u32.wrap r = r := Enc.wraps_u32 _ (by omega) (by omega)
  have w4 : IntKind.u32.wrap (co - q) = co - q := Enc.wraps_u32 _ (by omega) (by omega)
  have w5 : IntKind.u32.wrap (r - 1) = r - 1 := Enc.wraps_u32 _ (by omega) (by omega)
  clear hE hq hr a
  unfold Mdl.part
  go_enter Try.func71, Try.ntmps71
  go_wp2
  go_quiet (fail)
  have hB : Below w.heap.size w ((w.alloc (.cells #[.int .u32 lo, .int .u32 ow, .int .u32 al] 31)).drewN nq) := pw_below_drewN ((Below.refl _ _).alloc (Nat.le_refl _) _) nq
  have A2 := Lib.hid (A.out.below hB)
  have P2 : Hid (Blk ((w.alloc (.cells #[.int .u32 lo, .int .u32 ow, .int .u32 al] 31)).drewN nq) w.heap.size 31 #[.int .u32 lo, .int .u32 ow, .int .u32 al]) := (Blk.new w _ _).drewN nq
  have O2 : Hid (At d w ((w.alloc (.cells #[.int .u32 lo, .int .u32 ow, .int .u32 al] 31)).drewN nq)) := Lib.hid (Only.of_below hB)
  clear d3 A hB
  generalize ((w.alloc (.cells #[.int .u32 lo, .int .u32 ow, .int .u32 al] 31)).drewN nq) = w2 at *
  have d2 := A2.out.blk.cell (i := 2) rfl
  have d3 := A2.out.blk.cell (i := 3) rfl
  have f2 := A2.out.blk.free 2
  have f3 := A2.out.blk.free 3
  have c0' := P2.out.cell (i := 0) rfl
  have c1' := P2.out.cell (i := 1) rfl
  have c2' := P2.out.cell (i := 2) rfl
  go_wp2
  go_still_tail 11, (by kernel_rfl)
  go_wp2_with fail
  have A3 := Lib.hid ((A2.out.co_ (co - q)).sz_ r).drew
  have O3 := Lib.hid ((At.cell O2.out 2 (.int .u32 (co - q))).cell 3 (.int .u32 r)).drew
  clear d2 d3 f2 f3 c0' c1' c2' A2 O2 P2
  generalize ((w2.setCell ⟨d, 2, none⟩ (.int .u32 (co - q))).setCell ⟨d, 3, none⟩ (.int .u32 r)).drew = w3 at *
  have d2 := A3.out.blk.cell (i := 2) rfl
  have d3 := A3.out.blk.cell (i := 3) rfl
  have f2 := A3.out.blk.free 2
  simp only at d2 d3
  obtain ⟨x, hx⟩ : ∃ x, x = min (co - q) (r - 1) := ⟨_, rfl⟩
  have m1 : (if r - 1 < co - q then r - 1 else co - q) = x := by omega
  have m2 : mn (co - q) (r - 1) = x := by unfold mn; omega
  have x0 : 0 ≤ x := by omega
  have x1 : x ≤ r - 1 := by omega
  rw [← hx] at HT
  clear hx
  go_still_tail 13, (by kernel_rfl)
  go_wp2_with fail
  have A4 := Lib.hid (A3.out.co_ x).drew
  have O4 := Lib.hid (At.cell O3.out 2 (.int .u32 x)).drew
  clear d2 d3 f2 A3 O3 m1 m2 w1 w4 w5 e1 e1' e2 e3
  generalize (w3.setCell ⟨d, 2, none⟩ (.int .u32 x)).drew = w4 at *
  go_loopg [] 2 (fun j wr => ∃ t : DSt, j ≤ 2 ∧ Enc.lw j ≤ t.sz ∧ t.sz < 4294967296 ∧ 0 ≤ t.co ∧ t.co < t.sz ∧ Hid (Byt t.bs) ∧ t.n + j ≤ 900000000002 ∧ Hid (dnorm j t = takeS ⟨bs, n, co, sz⟩ lo ow al) ∧ Hid (Is wr d 120 .u32 t v) ∧ Hid (At d w wr))
  case atStart => exact ⟨⟨bs, n, x, r⟩, Nat.le_refl _, by show (256 : Int) ≤ r; omega, by simp only; omega, x0, by simp only; omega, BY, by simp only; omega, HT.out.symm, A4, O4⟩
  case round =>
    clear A4 O4 HT BY
    obtain ⟨t, hj2, hlw, ts1, t0, t1, BY, hnn, HN, A3, O3⟩ := hrel
    have d3 := A3.out.blk.cell (i := 3) rfl
    have f3 := A3.out.blk.free 3
    by_cases hc : t.sz < 16777216
    · have hg : 0 < gk := by
        rcases Nat.eq_zero_or_pos gk with h | h
        · subst h; have : (16777216 : Int) ≤ t.sz := hlw; omega
        · exact h
      obtain ⟨j, rfl⟩ : ∃ j, gk = j + 1 := ⟨gk - 1, by omega⟩
      have HSt : Hid (dnorm (j + 1) t = dnorm j (nextS ⟨t.bs, t.n, t.co, t.sz * 256⟩)) := Lib.hid (by show (if t.sz < 16777216 then dnorm j (nextS ⟨t.bs, t.n, t.co, t.sz * 256⟩) else t) = _; rw [if_pos hc])
      have hlw2 : Enc.lw j ≤ t.sz * 256 := by
        rcases (show j = 0 ∨ j = 1 by omega) with h | h
        · subst h; have : (65536 : Int) ≤ t.sz := hlw; show (16777216 : Int) ≤ _; omega
        · subst h; have : (256 : Int) ≤ t.sz := hlw; show (65536 : Int) ≤ _; omega
      have NX := Lib.hid (next_calls (A3.out.sz_ (t.sz * 256)) BY.out t0 (by simp only; omega) (by simp only; omega))
      have O4 := Lib.hid (At.cell O3.out 3 (.int .u32 (t.sz * 256)))
      have w1 : IntKind.u32.wrap (t.sz * 256) = t.sz * 256 := Enc.wraps_u32 _ (by omega) (by omega)
      have hbt := bt_bd (s := ⟨t.bs, t.n, t.co, t.sz * 256⟩) BY.out
      clear hlw
      obtain ⟨tsz, htz⟩ : ∃ tsz, t.sz = tsz := ⟨_, rfl⟩
      rw [htz] at d3 ts1 t1 hc hlw2 O4 NX HSt w1 hbt
      clear htz
      go_wp2_with (go_at_call 67; refine NX.out.mono ?_; rintro e w4 ⟨rfl, a4, o4⟩; have A4 := Lib.hid a4; have O5 := Lib.hid (O4.out.trans o4); clear a4 o4)
      go_roundg j
      case measure => omega
      case rel => exact ⟨nextS ⟨t.bs, t.n, t.co, tsz * 256⟩, by omega, hlw2, by show tsz * 256 < _; omega, by show 0 ≤ t.co * 256 + _; omega, by show t.co * 256 + _ < tsz * 256; omega, BY, by show t.n + 1 + j ≤ _; omega, HSt.out.symm.trans HN.out, A4, O5⟩
    · have HF : Hid (takeS ⟨bs, n, co, sz⟩ lo ow al = t) := Lib.hid (HN.out.symm.trans (by
        cases gk with
        | zero => rfl
        | succ j => show (if t.sz < 16777216 then dnorm j _ else t) = _; rw [if_neg hc]))
      clear HN
      go_wp2
      rw [HF.out]
      exact bodyPost_end (results_none rfl _ _ _) rfl ⟨rfl, A3.out, O3.out⟩
theorem dnorm_ready (k : Nat) (hk : k ≤ 2) : ∀ t : DSt, Byt t.bs → 0 ≤ t.co → t.co < t.sz → Enc.lw k ≤ t.sz → t.sz < 4294967296 → (dnorm k t).Ready ∧ (dnorm k t).bs = t.bs ∧ t.n ≤ (dnorm k t).n ∧ (dnorm k t).n ≤ t.n + k ∧ (dnorm k t).co < (dnorm k t).sz := by
  induction k with
  | zero => intro t h1 h2 h3 h4 h5; exact ⟨⟨h1, h2, by simp only [dnorm]; omega, h4, h5⟩, rfl, Nat.le_refl _, Nat.le_refl _, h3⟩
  | succ k ih =>
    intro t h1 h2 h3 h4 h5
    unfold dnorm
    by_cases hc : t.sz < 16777216
    · rw [if_pos hc]
      have hlw2 : Enc.lw k ≤ t.sz * 256 := by
        rcases (show k = 0 ∨ k = 1 by omega) with h | h
        · subst h; have : (65536 : Int) ≤ t.sz := h4; show (16777216 : Int) ≤ _; omega
        · subst h; have : (256 : Int) ≤ t.sz := h4; show (65536 : Int) ≤ _; omega
      have hb := bt_bd (s := ⟨t.bs, t.n, t.co, t.sz * 256⟩) h1
      obtain ⟨r1, r2, r3, r4, r5⟩ := ih (by omega) (nextS ⟨t.bs, t.n, t.co, t.sz * 256⟩) h1 (by show 0 ≤ t.co * 256 + _; omega) (by show t.co * 256 + _ < t.sz * 256; omega) hlw2 (by show t.sz * 256 < _; omega)
      have e1 : (nextS ⟨t.bs, t.n, t.co, t.sz * 256⟩).n = t.n + 1 := rfl
      exact ⟨r1, r2, by omega, by omega, r5⟩
    · rw [if_neg hc]
      exact ⟨⟨h1, h2, by omega, by omega, h5⟩, rfl, Nat.le_refl _, by omega, h3⟩
/-- What is taken may be taken. -/
theorem take_ready {s : DSt} (ok : s.Ready) {lo ow al : Int} (may : Enc.May lo ow al) (le : s.sz / al * lo ≤ s.co) : (takeS s lo ow al).Ready ∧ (takeS s lo ow al).bs = s.bs ∧ s.n ≤ (takeS s lo ow al).n ∧ (takeS s lo ow al).n ≤ s.n + 2 := by
  obtain ⟨p0, p1, p2, p3⟩ := may
  have s0 := ok.s0
  have s1 := ok.s1
  obtain ⟨each, hE⟩ : ∃ each, each = s.sz / al := ⟨_, rfl⟩
  have b2 := Enc.mul_bd each ow al s.sz hE (by omega) (by omega) (by omega) (by omega)
  have b3 := Enc.each_lo al s.sz (by omega) p3 s0
  have b4 : each * 1 ≤ each * ow := Int.mul_le_mul_of_nonneg_left p1 (by rw [hE]; omega)
  unfold takeS
  rw [← hE] at b3 le ⊢
  obtain ⟨r1, r2, r3, r4, _⟩ := dnorm_ready 2 (by omega) ⟨s.bs, s.n, min (s.co - each * lo) (each * ow - 1), each * ow⟩ ok.by_ (by simp only; omega) (by simp only; omega) (by show (256 : Int) ≤ each * ow; omega) (by simp only; omega)
  exact ⟨r1, r2, r3, r4⟩
/-- The part that is there, lies at or below the number. -/
theorem at_le {s : DSt} (ok : s.Ready) {al x : Int} (a0 : 1 ≤ al) (a1 : al ≤ 8192) (h : x ≤ atS s al) : s.sz / al * x ≤ s.co := by
  have b3 := Enc.each_lo al s.sz a0 a1 ok.s0
  have h2 : x ≤ s.co / (s.sz / al) := by unfold atS at h; omega
  have h3 : s.sz / al * x ≤ s.sz / al * (s.co / (s.sz / al)) := Int.mul_le_mul_of_nonneg_left h2 (by omega)
  have h4 : s.sz / al * (s.co / (s.sz / al)) ≤ s.co := by rw [Int.mul_comm]; exact Int.ediv_mul_le _ (by omega)
  omega
theorem at_bd {s : DSt} (ok : s.Ready) {al : Int} (a0 : 1 ≤ al) (a1 : al ≤ 8192) : 0 ≤ atS s al ∧ atS s al ≤ al - 1 := by
  have b3 := Enc.each_lo al s.sz a0 a1 ok.s0
  have h2 : 0 ≤ s.co / (s.sz / al) := Int.ediv_nonneg ok.c0 (by omega)
  unfold atS
  omega
theorem next_bd {s : DSt} (h : Byt s.bs) {B : Int} (h0 : 0 ≤ s.co) (h1 : s.co < B) : Byt (nextS s).bs ∧ 0 ≤ (nextS s).co ∧ (nextS s).co < B * 256 := by
  have := bt_bd h
  exact ⟨h, by show 0 ≤ s.co * 256 + bt s; omega, by show s.co * 256 + bt s < _; omega⟩
theorem open_ready (bs : List Int) (h : Byt bs) : (openS bs).Ready := by
  have h1 := next_bd (s := ⟨bs, 0, 0, 4294967295⟩) h (B := 1) (by show (0 : Int) ≤ 0; decide) (by show (0 : Int) < 1; decide)
  have h2 := next_bd h1.1 h1.2.1 h1.2.2
  have h3 := next_bd h2.1 h2.2.1 h2.2.2
  have h4 := next_bd h3.1 h3.2.1 h3.2.2
  refine ⟨h4.1, h4.2.1, ?_, by show (16777216 : Int) ≤ 4294967295; decide, by show (4294967295 : Int) < 4294967296; decide⟩
  show (openS bs).co ≤ 4294967295
  have := h4.2.2
  unfold openS
  omega
theorem Sl.empty (w : World) (e : TypeId) (k : IntKind) : Sl (w.alloc (.cells #[] e)) e k (.slice (some ⟨w.heap.size, 0, none⟩) 0 0) [] :=
  .inr ⟨w.heap.size, 0, rfl, #[], Blk.new w e #[], Nat.le_refl _, Nat.zero_le _, rfl, fun i h => by cases h⟩
theorem Added.fresh {w w1 : World} {o : Obj} {e : TypeId} {k : IntKind} {v1 : Value} {ys : List Int} (h : Added (w.alloc o) w1 e k (.slice (some ⟨w.heap.size, 0, none⟩) 0 0) v1 ys (w.alloc o).heap.size) :
    Below w.heap.size w w1 ∧ ∀ g, v1.ownBlock = some g → w.heap.size ≤ g := by
  have hs : (w.alloc o).heap.size = w.heap.size + 1 := by simp
  have e0 : (Value.slice (some ⟨w.heap.size, 0, none⟩) 0 0).ownBlock = some w.heap.size := rfl
  refine ⟨((Below.refl _ _).alloc (Nat.le_refl _) _ : Below _ _ _).trans (h.only.below (B := w.heap.size) (by omega) (fun i hi => ?_)), fun g hg => ?_⟩
  · rw [e0] at hi; injection hi with hi; omega
  · rcases h.at_ with h1 | h1
    · rw [h1, e0] at hg; injection hg with hg; omega
    · rw [h1] at hg; injection hg with hg; omega
set_option maxRecDepth 100000 in
/-- A copy. -/
theorem Clone_calls {w : World} {u : Value} {bs : List Int} (src : Src w .u8 u bs) (hl : bs.length ≤ 1000000000) : Calls Try.prog 66 #[u] w fun e w' => ∃ v, e = .returned v ∧ Sl w' 5 .u8 v bs ∧ Below w.heap.size w w' ∧ (∀ g, v.ownBlock = some g → w.heap.size ≤ g) := by
  obtain ⟨A, c, rfl, h⟩ := src
  have H := Lib.hid h
  have qT : ∀ (w : World) (a : Option Addr) (n c n' c' : Nat), (binOp .eql 35 (.slice a n c) (.slice none n' c')).run Try.prog w = .ok (.bool a.isNone) w := fun w a n c n' c' => Lib.run_eql_slice_nil w _ _ a n c n' c' Try.underlying35
  cases A with
  | none =>
    have h0 : bs = [] := by
      by_cases hp : 0 < bs.length
      · obtain ⟨ad, h, _⟩ := h hp; cases h
      · exact List.eq_nil_of_length_eq_zero (by omega)
    subst h0
    clear h H hl
    go_enter Try.func66, Try.ntmps66
    go_wp2
    go_ret
    exact ⟨_, rfl, Sl.nil _ _ _, Below.refl _ _, fun g hg => by cases hg⟩
  | some ad =>
    clear h
    have h0 : Sl (w.alloc (.cells #[] 5)) 5 .u8 (.slice (some ⟨w.heap.size, 0, none⟩) 0 0) [] := Sl.empty w _ _
    have SR : Src (w.alloc (.cells #[] 5)) .u8 (.slice (some ad) bs.length c) bs := Src.below ⟨some ad, c, rfl, H.out⟩ ((Below.refl _ _).alloc (Nat.le_refl _) _)
    have S0 := Lib.hid h0
    have SR := Lib.hid SR
    clear h0
    go_enter Try.func66, Try.ntmps66
    go_wp2_with (first
      | (at_builtin; refine wpList_add (.tmp 5) (.tmp 6) 35 5 .u8 0 1 rfl rfl Try.underlying35 Enc.info_u8 _ _ [] bs rfl rfl S0.out SR.out (by simp; omega) (by simp; omega) ?_
         intro v1 w1 hp
         have HP := Lib.hid hp
         clear hp))
    go_ret
    exact ⟨v1, rfl, HP.out.sl, Added.fresh HP.out⟩
def nexts : Nat → DSt → DSt
  | 0, s => s
  | n + 1, s => nexts n (nextS s)
theorem open_nexts (bs : List Int) : openS bs = nexts 4 ⟨bs, 0, 0, 4294967295⟩ := rfl
theorem pow_lt4 {k : Nat} (h : k < 4) : (256 : Int) ^ k ≤ 16777216 := by
  rcases (show k = 0 ∨ k = 1 ∨ k = 2 ∨ k = 3 by omega) with h | h | h | h <;> subst h <;> decide
set_option maxHeartbeats 2000000 in
set_option maxRecDepth 100000 in
theorem New_calls {w : World} {u : Value} {bs : List Int} (src : Src w .u8 u bs) (hb : Byt bs) :
    Calls Try.prog 33 #[u] w fun e w' => ∃ d v, e = .returned (.pointer (some ⟨d, 0, none⟩)) ∧ w.heap.size ≤ d ∧ (∀ g, v.ownBlock = some g → w.heap.size ≤ g) ∧ Is w' d 120 .u32 (openS bs) v ∧ Below w.heap.size w w' := by
  have HC := Lib.hid (Clone_calls src hb.2)
  have HB := Lib.hid hb
  clear src hb
  go_enter Try.func33, Try.ntmps33
  go_wp2_with fail
  refine HC.out.mono ?_
  rintro e1 w1 ⟨v1, rfl, sl, b1, own⟩
  have hs1 := b1.size
  have S1 := Lib.hid sl
  have B1 := Lib.hid b1
  have O1 := Lib.hid own
  clear sl b1 own
  obtain ⟨ad, cap, rfl, _⟩ := S1.out.form
  have HI : Hid (Is (w1.alloc (.cells #[.slice ad bs.length cap, .int .i64 0, .int .u32 0, .int .u32 4294967295] 120)) w1.heap.size 120 .u32 ⟨bs, 0, 0, 4294967295⟩ (.slice ad bs.length cap)) :=
    Lib.hid ⟨Blk.new w1 _ _, S1.out.alloc _, fun e => by have := S1.out.lt e; omega⟩
  have B2 : Hid (Below w.heap.size w (w1.alloc (.cells #[.slice ad bs.length cap, .int .i64 0, .int .u32 0, .int .u32 4294967295] 120))) := Lib.hid (B1.out.alloc hs1 _)
  clear B1
  go_wp2_with fail
  go_loopw [8] (fun i wr => ∃ (k : Nat) (t : DSt), k ≤ 4 ∧ i = .int .i64 (k : Int) ∧ Hid (nexts (4 - k) t = openS bs) ∧ Hid (Byt t.bs) ∧ 0 ≤ t.co ∧ Hid (t.co < 256 ^ k) ∧ t.n = k ∧ Hid (Is wr w1.heap.size 120 .u32 t (.slice ad bs.length cap)) ∧ Hid (Below w.heap.size w wr)) (fun i _ => 4 - (intOf i).toNat)
  case atStart => exact ⟨0, ⟨bs, 0, 0, 4294967295⟩, by omega, rfl, rfl, HB, by simp only; omega, Lib.hid (by show (0 : Int) < 256 ^ 0; decide), rfl, HI, B2⟩
  case round =>
    clear HI B2 HB
    obtain ⟨k, t, hk, rfl, HN, HB, t0, HL, hn, HI, B2⟩ := hrel
    by_cases hlt : k < 4
    · have hp := pow_lt4 hlt
      have hL := HL.out
      have NX := Lib.hid (next_calls HI.out HB.out t0 (by omega) (by omega))
      clear hp hL
      go_wp2_with (go_at_call 67; refine NX.out.mono ?_; rintro e w4 ⟨rfl, a4, o4⟩; have A4 := Lib.hid a4; have O5 := Lib.hid o4; clear a4 o4)
      go_roundw
      case rel =>
        have hbt := bt_bd HB.out
        refine ⟨k + 1, nextS t, by omega, by push_cast; rfl, ?_, HB, by show 0 ≤ t.co * 256 + _; omega, ?_, by show t.n + 1 = k + 1; omega, A4, B2.out.trans (O5.out.below (by have := B2.out.size; omega) (fun i hi => by omega))⟩
        · have e : 4 - k = (4 - (k + 1)) + 1 := by omega
          have := HN.out
          rw [e] at this
          exact this
        · have hL := HL.out
          show t.co * 256 + _ < (256 : Int) ^ (k + 1)
          rw [Int.pow_succ]; omega
      case measure => simp [intOf]; omega
    · obtain rfl : k = 4 := by omega
      have hN : t = openS bs := HN.out
      subst hN
      go_wp2
      go_ret
      exact ⟨w1.heap.size, _, rfl, hs1, O1.out, HI.out, B2.out⟩
end Go.Proofs.Ytlbjoflmfboeeaa.Deco

/-
  The walks of the program's decoder: Symbol, Bits, Over; no condition but those told.
-/
set_option linter.unusedVariables false
set_option linter.unusedSimpArgs false
namespace Go.Proofs.Ytlbjoflmfboeeaa.Deco
open Go.RowKit Go.Proofs.Ytlbjoflmfboeeaa Go.Proofs.YtlbjoflmfboeeaaW.PrintWords

/-- The symbol that comes. -/
def symK (s : DSt) (L : List Int) : Nat := Mdl.find L (atS s (Mdl.lsum L))
def symS (s : DSt) (L : List Int) : DSt := takeS s (Mdl.lsum (L.take (symK s L))) (L.getD (symK s L) 0) (Mdl.lsum L)
theorem find_low (L : List Int) (x : Int) (h0 : 0 ≤ x) : Mdl.lsum (L.take (Mdl.find L x)) ≤ x := by
  rcases Nat.eq_zero_or_pos (Mdl.find L x) with h | h
  · rw [h]; exact h0
  · have := Mdl.find_before L x (Mdl.find L x - 1) (by omega)
    rwa [show Mdl.find L x - 1 + 1 = Mdl.find L x from by omega] at this
theorem sym_lt {s : DSt} {L : List Int} (good : Mdl.Good L) : symK s L < L.length := Mdl.find_lt L _ good.len1
theorem sym_le {s : DSt} (ok : s.Ready) {L : List Int} (good : Mdl.Good L) : s.sz / Mdl.lsum L * Mdl.lsum (L.take (symK s L)) ≤ s.co :=
  at_le ok good.sum1 good.all (find_low L _ (at_bd ok good.sum1 good.all).1)
theorem sym_ready {s : DSt} (ok : s.Ready) {L : List Int} (good : Mdl.Good L) : (symS s L).Ready ∧ (symS s L).bs = s.bs ∧ s.n ≤ (symS s L).n ∧ (symS s L).n ≤ s.n + 2 :=
  take_ready ok (Enc.may_of good _ (sym_lt good)) (sym_le ok good)
attribute [local irreducible] takeS atS bt
set_option maxHeartbeats 2000000 in
set_option maxRecDepth 100000 in
theorem Symbol_yes {w : World} {d m h cap : Nat} {s : DSt} {v : Value} {L : List Int} {f : Bool} (a : Is w d 120 .u32 s v) (ok : s.Ready) (hn : s.n ≤ 900000000000) (b : Mdl.Is w m h cap L f) (good : Mdl.Good L)
    (n1 : d ≠ m) (n2 : d ≠ h) (n3 : v.ownBlock ≠ some m) (n4 : v.ownBlock ≠ some h) :
    Calls Try.prog 35 #[.pointer (some ⟨d, 0, none⟩), .pointer (some ⟨m, 0, none⟩)] w fun e w' => e = .returned (.tuple #[.int .i64 (symK s L), .int .i64 0]) ∧
      Is w' d 120 .u32 (symS s L) v ∧ Mdl.Is w' m h cap (Mdl.next f L (symK s L)) f ∧ Only (fun i => i = d ∨ (i = m ∨ i = h)) w w' := by
  have A := Lib.hid a
  have B := Lib.hid b
  have G := Lib.hid good
  have OK := Lib.hid ok
  have N3 := Lib.hid n3
  have N4 := Lib.hid n4
  have lm := b.blk.lt
  have lh := b.row.lt
  have ld := a.blk.lt
  have OL : Hid (∀ g, v.ownBlock = some g → g < w.heap.size) := Lib.hid (fun g hg => a.sl.lt hg)
  have HK := Lib.hid (sym_lt (s := s) good)
  have MY := Lib.hid (Enc.may_of good _ (sym_lt (s := s) good))
  have LE := Lib.hid (sym_le ok good)
  have HS : Hid (symS s L = takeS s (Mdl.lsum (L.take (symK s L))) (L.getD (symK s L) 0) (Mdl.lsum L)) := Lib.hid rfl
  have HF : Hid (Mdl.find L (atS s (Mdl.lsum L)) = symK s L) := Lib.hid rfl
  have AB := Lib.hid (at_bd ok good.sum1 good.all)
  have l1 := good.len1
  have P1 := Lib.hid (Mdl.Part_some b good 0 (by omega))
  have al0 := Lib.hid good.sum1
  have al1 := Lib.hid good.all
  clear a b good ok n3 n4
  obtain ⟨al, hal⟩ : ∃ al, Mdl.lsum L = al := ⟨_, rfl⟩
  rw [hal] at MY LE HS HF AB P1 al0 al1
  obtain ⟨x0, hx0⟩ : ∃ x, Mdl.lsum (L.take 0) = x := ⟨_, rfl⟩
  obtain ⟨y0, hy0⟩ : ∃ x, L.getD 0 0 = x := ⟨_, rfl⟩
  rw [hx0, hy0] at P1
  clear hx0 hy0
  have HA := Lib.hid hal
  clear hal
  obtain ⟨k, hk⟩ : ∃ k, symK s L = k := ⟨_, rfl⟩
  rw [hk] at HK MY LE HS HF ⊢
  clear hk
  obtain ⟨lo, hlo⟩ : ∃ x, Mdl.lsum (L.take k) = x := ⟨_, rfl⟩
  obtain ⟨ow, how⟩ : ∃ x, L.getD k 0 = x := ⟨_, rfl⟩
  rw [hlo, how] at MY HS
  rw [hlo] at LE
  have HLo := Lib.hid hlo
  have HOw := Lib.hid how
  clear hlo how
  unfold Mdl.part at P1
  go_enter Try.func35, Try.ntmps35
  go_wp2_with fail
  refine P1.out.mono ?_
  rintro e1 w1 ⟨rfl, b1⟩
  have s1 := b1.size
  have B1 := Lib.hid b1
  clear b1
  go_wp2_with fail
  have hb2 : Below w.heap.size w (w1.alloc (.cells #[.int .u32 x0, .int .u32 y0, .int .u32 al] 31)) := B1.out.alloc s1 _
  have A2 := Lib.hid (A.out.below hb2)
  have M2 : Hid (Mdl.Is (w1.alloc (.cells #[.int .u32 x0, .int .u32 y0, .int .u32 al] 31)) m h cap L f) := Lib.hid (B.out.only (Only.of_below hb2 : Only (fun _ => False) _ _) (fun x => x) (fun x => x))
  have PB := Lib.hid (Blk.new w1 31 #[.int .u32 x0, .int .u32 y0, .int .u32 al])
  have O2 : Hid (Only (fun i => i = d ∨ (i = m ∨ i = h)) w (w1.alloc (.cells #[.int .u32 x0, .int .u32 y0, .int .u32 al] 31))) := Lib.hid (Only.of_below hb2)
  have l2 : w1.heap.size < (w1.alloc (.cells #[.int .u32 x0, .int .u32 y0, .int .u32 al] 31)).heap.size := by simp
  clear hb2 A B B1
  refine (at_calls A2.out OK.out al al0.out al1.out).mono ?_
  rintro e2 w2 ⟨rfl, nq, rfl⟩
  have A3 := Lib.hid (A2.out.drewN nq)
  have M3 := Lib.hid (M2.out.drewN nq)
  have PB3 := Lib.hid (PB.out.drewN nq)
  have O3 := Lib.hid (O2.out.drewN nq)
  have l3 : w1.heap.size < ((w1.alloc (.cells #[.int .u32 x0, .int .u32 y0, .int .u32 al] 31)).drewN nq).heap.size := l2
  clear A2 M2 PB O2 l2
  generalize (w1.alloc (.cells #[.int .u32 x0, .int .u32 y0, .int .u32 al] 31)).drewN nq = w3 at *
  generalize w1.heap.size = p at *
  go_wp2_with fail
  have FD := Lib.hid (Mdl.Find_some M3.out G.out (atS s al) AB.out.1 (by have := AB.out.2; have := al1.out; omega))
  rw [HF.out] at FD
  refine FD.out.mono ?_
  rintro e4 w4 ⟨rfl, rfl⟩
  go_wp2_with fail
  have P5 := Lib.hid (Mdl.Part_some M3.out G.out k HK.out)
  rw [HLo.out, HOw.out, HA.out] at P5
  refine P5.out.mono ?_
  rintro e5 w5 ⟨rfl, b5⟩
  have A5 := Lib.hid (A3.out.below b5)
  have M5 : Hid (Mdl.Is w5 m h cap L f) := Lib.hid (M3.out.only (Only.of_below b5 : Only (fun _ => False) _ _) (fun x => x) (fun x => x))
  have PB5 := Lib.hid (PB3.out.below b5 l3)
  have O5 : Hid (Only (fun i => i = d ∨ (i = m ∨ i = h)) w w5) := Lib.hid (O3.out.trans (Only.of_below b5))
  clear FD P5 b5 A3 M3 PB3 O3 l3
  unfold Mdl.part
  have f0 := PB5.out.free 0
  have f1 := PB5.out.free 1
  have f2 := PB5.out.free 2
  have q0 := PB5.out.cell (i := 0) rfl
  have q1 := PB5.out.cell (i := 1) rfl
  have q2 := PB5.out.cell (i := 2) rfl
  go_wp2_with fail
  have hp : w.heap.size ≤ p := by omega
  have O6 : Hid (Only (fun i => i = d ∨ (i = m ∨ i = h)) w (((w5.setCell ⟨p, 0, none⟩ (.int .u32 lo)).setCell ⟨p, 1, none⟩ (.int .u32 ow)).setCell ⟨p, 2, none⟩ (.int .u32 al))) :=
    Lib.hid (((O5.out.set (p := ⟨p, 0, none⟩) (.inr hp) _).set (p := ⟨p, 1, none⟩) (.inr hp) _).set (p := ⟨p, 2, none⟩) (.inr hp) _)
  have oP : Only (fun i => i = p) w5 (((w5.setCell ⟨p, 0, none⟩ (.int .u32 lo)).setCell ⟨p, 1, none⟩ (.int .u32 ow)).setCell ⟨p, 2, none⟩ (.int .u32 al)) :=
    At.cell (At.cell (At.cell (At.refl p w5) 0 _) 1 _) 2 _
  have A6 := Lib.hid (A5.out.only oP (by omega) (fun g hg => by have := OL.out g hg; omega))
  have M6 := Lib.hid (M5.out.only oP (by omega) (by omega))
  clear oP A5 M5 PB5 O5 f0 f1 f2 q0 q1 q2 OL
  generalize (((w5.setCell ⟨p, 0, none⟩ (.int .u32 lo)).setCell ⟨p, 1, none⟩ (.int .u32 ow)).setCell ⟨p, 2, none⟩ (.int .u32 al)) = w6 at *
  refine (take_calls A6.out OK.out lo ow al MY.out LE.out hn).mono ?_
  rintro e7 w7 ⟨rfl, a7, o7⟩
  have A7 := Lib.hid a7
  have M7 := Lib.hid (M6.out.only o7 (fun e => n1 e.symm) (fun e => n2 e.symm))
  have O7 : Hid (Only (fun i => i = d ∨ (i = m ∨ i = h)) w w7) := Lib.hid (O6.out.then o7 (fun i hi => .inl (.inl hi)))
  clear a7 o7 A6 M6 O6
  go_wp2_with fail
  refine (Mdl.Learn_any M7.out G.out k HK.out).mono ?_
  rintro e8 w8 ⟨rfl, b8, o8⟩
  have A8 := Lib.hid (A7.out.only o8 (fun hh => by rcases hh with hh | hh; exact n1 hh; exact n2 hh) (fun g hg hh => by
    rcases hh with hh | hh
    · subst hh; exact N3.out hg
    · subst hh; exact N4.out hg))
  have M8 := Lib.hid b8
  have O8 : Hid (Only (fun i => i = d ∨ (i = m ∨ i = h)) w w8) := Lib.hid (O7.out.then o8 (fun i hi => .inl (.inr hi)))
  clear b8 o8
  go_wp2_with fail
  go_ret2
  rw [HS.out]
  exact ⟨rfl, A8.out, M8.out, O8.out⟩
theorem Symbol_none {w : World} {m h cap : Nat} {L : List Int} {f : Bool} (b : Mdl.Is w m h cap L f) (good : Mdl.Good L) :
    Calls Try.prog 35 #[.pointer none, .pointer (some ⟨m, 0, none⟩)] w fun en w' => en = .returned (.tuple #[.int .i64 0, .int .i64 1]) ∧ Below w.heap.size w w' := by
  have P1 := Lib.hid (Mdl.Part_some b good 0 (by have := good.len1; omega))
  clear b good
  generalize Mdl.lsum L = al at *
  generalize Mdl.lsum (L.take 0) = x0 at *
  generalize L.getD 0 0 = y0 at *
  unfold Mdl.part at P1
  go_enter Try.func35, Try.ntmps35
  go_wp2_with fail
  refine P1.out.mono ?_
  rintro e1 w1 ⟨rfl, b1⟩
  have s1 := b1.size
  have B1 := Lib.hid b1
  clear b1
  go_wp2_with fail
  go_ret2
  exact ⟨rfl, B1.out.alloc s1 _⟩
theorem Symbol_nomodel (d : Nat) (w : World) :
    Calls Try.prog 35 #[.pointer (some ⟨d, 0, none⟩), .pointer none] w fun en w' => en = .returned (.tuple #[.int .i64 0, .int .i64 1]) ∧ Below w.heap.size w w' := by
  have P1 := Lib.hid (Mdl.Part_none (.int .i64 0) w)
  unfold Mdl.part at P1
  go_enter Try.func35, Try.ntmps35
  go_wp2_with fail
  refine P1.out.mono ?_
  rintro e1 w1 ⟨rfl, b1⟩
  have s1 := b1.size
  have B1 := Lib.hid b1
  clear b1
  go_wp2_with fail
  go_ret2
  exact ⟨rfl, B1.out.alloc s1 _⟩
theorem Over_none (w : World) : Calls Try.prog 39 #[.pointer none] w fun en w' => en = .returned (.int .i64 0) ∧ w' = w := by
  go_enter Try.func39, Try.ntmps39
  go_wp2
  go_ret
  exact ⟨rfl, rfl⟩
theorem Over_calls {w : World} {d : Nat} {s : DSt} {v : Value} (a : Is w d 120 .u32 s v) (hb : s.bs.length ≤ 1000000000) (hn : s.n ≤ 1000000000000) :
    Calls Try.prog 39 #[.pointer (some ⟨d, 0, none⟩)] w fun en w' => en = .returned (.int .i64 (max ((s.n : Int) - s.bs.length) 0)) ∧ ∃ n, w' = w.drewN n := by
  obtain ⟨ad, cap, rfl, _⟩ := a.sl.form
  have d0 := a.blk.cell (i := 0) rfl
  have d1 := a.blk.cell (i := 1) rfl
  obtain ⟨bs, n, co, sz⟩ := s
  simp only at *
  generalize bs.length = l at *
  clear a
  have w1 : IntKind.i64.wrap ((n : Int) - l) = (n : Int) - l := wrapI64 (by omega) (by omega)
  by_cases hc : (n : Int) - l < 0
  · have hm : max ((n : Int) - l) 0 = 0 := by omega
    rw [hm]
    go_enter Try.func39, Try.ntmps39
    go_wp2
    go_quiet (fail)
    go_wp2
    go_ret
    exact ⟨rfl, nq, rfl⟩
  · have hm : max ((n : Int) - l) 0 = (n : Int) - l := by omega
    rw [hm]
    go_enter Try.func39, Try.ntmps39
    go_wp2
    go_quiet (fail)
    go_wp2
    go_ret
    exact ⟨rfl, nq, rfl⟩
/-- The number and the state behind so many bits; n came before. -/
def bitsD (s : DSt) (n : Int) (w : Nat) : Int × DSt :=
  if w = 0 then (n, s) else if w ≤ 12 then (n * 2 ^ w + atS s (2 ^ w), takeS s (atS s (2 ^ w)) 1 (2 ^ w))
  else ((n * 4096 + atS s 4096) * 2 ^ (w - 12) + atS (takeS s (atS s 4096) 1 4096) (2 ^ (w - 12)), takeS (takeS s (atS s 4096) 1 4096) (atS (takeS s (atS s 4096) 1 4096) (2 ^ (w - 12))) 1 (2 ^ (w - 12)))
theorem bits_step (s : DSt) (n : Int) (j i : Nat) (hi : j = i + 12) (h0 : 0 < i) (h12 : i ≤ 12) : bitsD s n j = bitsD (takeS s (atS s 4096) 1 4096) (n * 4096 + atS s 4096) i := by
  unfold bitsD
  rw [if_neg (by omega), if_neg (by omega), if_neg (by omega), if_pos (by omega), show j - 12 = i from by omega]
theorem bits_last (s : DSt) (n : Int) (j : Nat) (h0 : 0 < j) (h12 : j ≤ 12) : bitsD s n j = (n * 2 ^ j + atS s (2 ^ j), takeS s (atS s (2 ^ j)) 1 (2 ^ j)) := by
  unfold bitsD
  rw [if_neg (by omega), if_pos h12]
theorem bits_nought (s : DSt) (n : Int) : bitsD s n 0 = (n, s) := by unfold bitsD; rw [if_pos rfl]
theorem pow12 {j : Nat} (h : j ≤ 12) : (1 : Int) ≤ 2 ^ j ∧ (2 : Int) ^ j ≤ 4096 := by
  have h3 : (0 : Int) < 2 ^ j := Int.pow_pos (by omega)
  have h4 := Nat.pow_le_pow_right (show 0 < 2 by decide) h
  have h5 : (2 : Int) ^ j ≤ 2 ^ 12 := by exact_mod_cast h4
  have e12 : (2 : Int) ^ 12 = 4096 := by decide
  omega
theorem pow24 {j : Nat} (h : j ≤ 24) : (1 : Int) ≤ 2 ^ j ∧ (2 : Int) ^ j ≤ 16777216 := by
  have h3 : (0 : Int) < 2 ^ j := Int.pow_pos (by omega)
  have h4 := Nat.pow_le_pow_right (show 0 < 2 by decide) h
  have h5 : (2 : Int) ^ j ≤ 2 ^ 24 := by exact_mod_cast h4
  have e24 : (2 : Int) ^ 24 = 16777216 := by decide
  omega
/-- One step: at most twelve bits. -/
theorem bits_more {s : DSt} (ok : s.Ready) {n : Int} {j : Nat} (hj : 0 < j) (h24 : j ≤ 24) : ∃ k i : Nat, 0 < k ∧ k ≤ 12 ∧ j = i + k ∧ k = min j 12 ∧ bitsD s n j = bitsD (takeS s (atS s (2 ^ k)) 1 (2 ^ k)) (n * 2 ^ k + atS s (2 ^ k)) i := by
  by_cases hc : 12 < j
  · exact ⟨12, j - 12, by omega, by omega, by omega, by omega, bits_step s n j (j - 12) (by omega) (by omega) (by omega)⟩
  · refine ⟨j, 0, hj, by omega, by omega, by omega, ?_⟩
    rw [bits_nought, bits_last s n j hj (by omega)]
theorem at_may {s : DSt} (ok : s.Ready) {al : Int} (a0 : 1 ≤ al) (a1 : al ≤ 8192) : Enc.May (atS s al) 1 al := by
  have := at_bd ok a0 a1
  exact ⟨this.1, by omega, by omega, a1⟩
theorem at_ready {s : DSt} (ok : s.Ready) {al : Int} (a0 : 1 ≤ al) (a1 : al ≤ 8192) : (takeS s (atS s al) 1 al).Ready ∧ (takeS s (atS s al) 1 al).bs = s.bs ∧ s.n ≤ (takeS s (atS s al) 1 al).n ∧ (takeS s (atS s al) 1 al).n ≤ s.n + 2 :=
  take_ready ok (at_may ok a0 a1) (at_le ok a0 a1 (Int.le_refl _))
theorem bits_ready {s : DSt} (ok : s.Ready) (n : Int) (w : Nat) (hw : w ≤ 24) : (bitsD s n w).2.Ready ∧ (bitsD s n w).2.bs = s.bs ∧ s.n ≤ (bitsD s n w).2.n ∧ (bitsD s n w).2.n ≤ s.n + 4 := by
  unfold bitsD
  split
  · exact ⟨ok, rfl, Nat.le_refl _, Nat.le_add_right _ _⟩
  · split
    · rename_i h0 h1
      have hp := pow12 h1
      obtain ⟨r1, r2, r3, r4⟩ := at_ready ok hp.1 (show (2 : Int) ^ w ≤ 8192 by omega)
      exact ⟨r1, r2, r3, Nat.le_trans r4 (by omega)⟩
    · rename_i h0 h1
      have hp := pow12 (show w - 12 ≤ 12 by omega)
      obtain ⟨r1, r2, r3, r4⟩ := at_ready ok (al := 4096) (by decide) (by decide)
      obtain ⟨q1, q2, q3, q4⟩ := at_ready r1 hp.1 (show (2 : Int) ^ (w - 12) ≤ 8192 by omega)
      exact ⟨q1, by rw [← r2, ← q2], Nat.le_trans r3 q3, Nat.le_trans q4 (by omega)⟩
theorem bits_bd {s : DSt} (ok : s.Ready) (w : Nat) (hw : w ≤ 24) : 0 ≤ (bitsD s 0 w).1 ∧ (bitsD s 0 w).1 < 16777216 := by
  unfold bitsD
  split
  · exact ⟨Int.le_refl _, by show (0 : Int) < 16777216; decide⟩
  · split
    · rename_i h0 h1
      have hp := pow12 h1
      have hb := at_bd ok hp.1 (show (2 : Int) ^ w ≤ 8192 by omega)
      constructor <;> (simp only; omega)
    · rename_i h0 h1
      have hp := pow12 (show w - 12 ≤ 12 by omega)
      have hb := at_bd ok (al := 4096) (by decide) (by decide)
      have hq := at_bd (at_ready ok (al := 4096) (by decide) (by decide)).1 hp.1 (show (2 : Int) ^ (w - 12) ≤ 8192 by omega)
      generalize atS (takeS s (atS s 4096) 1 4096) (2 ^ (w - 12)) = y at *
      generalize atS s 4096 = x at *
      generalize (2 : Int) ^ (w - 12) = p at *
      have h1 : (0 * 4096 + x) * p ≤ 4095 * p := Int.mul_le_mul_of_nonneg_right (by omega) (by omega)
      have h2 : 0 ≤ (0 * 4096 + x) * p := Int.mul_nonneg (by omega) (by omega)
      constructor <;> (simp only; omega)
attribute [local irreducible] bitsD
set_option maxHeartbeats 2000000 in
set_option maxRecDepth 100000 in
theorem Bits_yes {w : World} {d : Nat} {s : DSt} {v : Value} (a : Is w d 120 .u32 s v) (ok : s.Ready) (hn : s.n ≤ 800000000000) (wide : Nat) (h2 : wide ≤ 24) :
    Calls Try.prog 37 #[.pointer (some ⟨d, 0, none⟩), .int .i64 wide] w fun en w' => en = .returned (.tuple #[.int .u32 (bitsD s 0 wide).1, .int .i64 0]) ∧ Is w' d 120 .u32 (bitsD s 0 wide).2 v ∧ At d w w' := by
  have y1 : decide ((wide : Int) < 0) = false := decide_eq_false (by omega)
  have y2 : decide ((24 : Int) < (wide : Int)) = false := decide_eq_false (by omega)
  have A := Lib.hid a
  have R0 := Lib.hid ok
  clear a ok
  go_enter Try.func37, Try.ntmps37
  go_wp2
  clear y1 y2
  go_loopw [1, 6] (fun u nv wr => ∃ (j : Nat) (t : DSt) (n : Int), j ≤ 24 ∧ u = .int .i64 (j : Int) ∧ nv = .int .u32 n ∧ 0 ≤ n ∧ Hid ((n + 1) * 2 ^ j ≤ 16777216) ∧ Hid (bitsD t n j = bitsD s 0 wide) ∧ Hid t.Ready ∧ t.n + 4 * j ≤ 900000000000 ∧ Hid (Is wr d 120 .u32 t v) ∧ Hid (At d w wr)) (fun u _ _ => (intOf u).toNat)
  case atStart => exact ⟨wide, s, 0, h2, rfl, rfl, Int.le_refl _, Lib.hid (by have := pow24 h2; omega), rfl, R0, by omega, A, At.refl d w⟩
  case round =>
    clear A R0
    obtain ⟨j, t, n, hj, rfl, rfl, n0, HL, HN, R0, hkk, A, O⟩ := hrel
    have hd := A.out.blk.lt
    by_cases hz : 0 < j
    · obtain ⟨k, i, hk0, hk12, hji, hkm, hst⟩ := bits_more (n := n) R0.out hz hj
      have hp := pow12 hk12
      have HP := Lib.hid hp
      have hp8 : (2 : Int) ^ k ≤ 8192 := by omega
      have AR := Lib.hid (at_ready R0.out hp.1 hp8)
      have AM := Lib.hid (at_may R0.out hp.1 hp8)
      have AL := Lib.hid (at_le R0.out hp.1 hp8 (Int.le_refl _))
      have HSt := Lib.hid hst
      have ab := at_bd R0.out hp.1 hp8
      have hL : (n * 2 ^ k + atS t (2 ^ k) + 1) * 2 ^ i ≤ 16777216 ∧ n * 2 ^ k + atS t (2 ^ k) + 1 ≤ 16777216 := by
        have h1 := HL.out
        rw [hji, Nat.add_comm, Int.pow_add, ← Int.mul_assoc] at h1
        have hpi : (0 : Int) < 2 ^ i := Int.pow_pos (by omega)
        have h2 : (n + 1) * 2 ^ k = n * 2 ^ k + 2 ^ k := by rw [Int.add_mul, Int.one_mul]
        rw [h2] at h1
        have h3 : (n * 2 ^ k + atS t (2 ^ k) + 1) * 2 ^ i ≤ (n * 2 ^ k + 2 ^ k) * 2 ^ i := Int.mul_le_mul_of_nonneg_right (by omega) (by omega)
        have h4 : (n * 2 ^ k + atS t (2 ^ k) + 1) * 1 ≤ (n * 2 ^ k + atS t (2 ^ k) + 1) * 2 ^ i := Int.mul_le_mul_of_nonneg_left (by omega) (by have := Int.mul_nonneg n0 (show (0 : Int) ≤ 2 ^ k by omega); omega)
        omega
      have n1 : 0 ≤ n * 2 ^ k := Int.mul_nonneg n0 (by omega)
      have n2 : n * 2 ^ k < 16777216 := by omega
      have w2 : IntKind.u32.wrap (n * 2 ^ k) = n * 2 ^ k := Enc.wraps_u32 _ n1 (by omega)
      have w3 : bits .or .u32 (n * 2 ^ k) (atS t (2 ^ k)) = n * 2 ^ k + atS t (2 ^ k) := bits_join .u32 32 (by decide) Enc.wraps_u32 k _ _ n1 (Int.mul_emod_left _ _) (by omega) ab.1 (by omega) (by omega)
      have HLL := Lib.hid hL
      have HI : Hid (i < j ∧ i ≤ 24 ∧ t.n + 2 + 4 * i ≤ 900000000000) := Lib.hid (by omega)
      clear hst hL HL
      by_cases hc : 12 < j
      · obtain rfl : k = 12 := by omega
        have hji2 : (j : Int) - 12 = (i : Int) := by omega
        have z1 : (2 : Int) ^ 12 = 4096 := by decide
        rw [z1] at w2 w3 n1 n2 ab hp HP hp8 AR AM AL HSt HLL
        clear z1 hkm hji
        obtain ⟨x, hx⟩ : ∃ x, atS t 4096 = x := ⟨_, rfl⟩
        rw [hx] at w3 ab AR AM AL HSt HLL
        have HX := Lib.hid hx
        clear hx
        have CA := Lib.hid (at_calls A.out R0.out 4096 HP.out.1 (by have := HP.out.2; omega))
        rw [HX.out] at CA
        go_wp2_with fail
        refine CA.out.mono ?_
        rintro e1 w1 ⟨rfl, nq, rfl⟩
        have A1 := Lib.hid (A.out.drewN nq)
        have O1 := Lib.hid (O.out.drewN nq)
        have CT := Lib.hid (take_calls A1.out R0.out x 1 4096 AM.out AL.out (by omega))
        unfold Mdl.part at CT
        clear A O CA
        go_wp2_with fail
        refine CT.out.mono ?_
        rintro e2 w2 ⟨rfl, a2, o2⟩
        have A2 := Lib.hid a2
        have O2 := Lib.hid (O1.out.trans o2)
        clear a2 o2 A1 O1 CT
        go_wp2_with fail
        go_roundw
        case rel => exact ⟨i, takeS t x 1 4096, n * 4096 + x, HI.out.2.1, rfl, rfl, by omega, HLL.out.1, HSt.out.symm.trans HN.out, AR.out.1, by have := AR.out.2.2.2; have := HI.out.2.2; omega, A2, O2⟩
        case measure => simp [intOf]; exact HI.out.1
      · obtain rfl : k = j := by omega
        obtain rfl : i = 0 := by omega
        have m1 : min (k : Int) 12 = (k : Int) := by omega
        have m2 : mn (k : Int) 12 = (k : Int) := by unfold mn; omega
        have m3 : (if (12 : Int) < (k : Int) then (12 : Int) else (k : Int)) = (k : Int) := by omega
        have nm : min k 32 = k := by omega
        have w1 : IntKind.u32.wrap (2 ^ k) = 2 ^ k := Enc.wraps_u32 _ (by omega) (by omega)
        have k4 : ¬ ((k : Int) < 0) := by omega
        have k5 : decide ((k : Int) < 0) = false := decide_eq_false k4
        clear hkm hji
        obtain ⟨x, hx⟩ : ∃ x, atS t (2 ^ k) = x := ⟨_, rfl⟩
        rw [hx] at w3 ab AR AM AL HSt HLL
        have HX := Lib.hid hx
        clear hx
        have CA := Lib.hid (at_calls A.out R0.out (2 ^ k) HP.out.1 (by have := HP.out.2; omega))
        rw [HX.out] at CA
        go_wp2_with fail
        refine CA.out.mono ?_
        rintro e1 w1 ⟨rfl, nq, rfl⟩
        have A1 := Lib.hid (A.out.drewN nq)
        have O1 := Lib.hid (O.out.drewN nq)
        have CT := Lib.hid (take_calls A1.out R0.out x 1 (2 ^ k) AM.out AL.out (by omega))
        unfold Mdl.part at CT
        clear A O CA
        go_wp2_with fail
        refine CT.out.mono ?_
        rintro e2 w2 ⟨rfl, a2, o2⟩
        have A2 := Lib.hid a2
        have O2 := Lib.hid (O1.out.trans o2)
        clear a2 o2 A1 O1 CT
        go_wp2_with fail
        go_roundw
        case rel => exact ⟨0, takeS t x 1 (2 ^ k), n * (2 ^ k) + x, HI.out.2.1, rfl, rfl, by omega, HLL.out.1, HSt.out.symm.trans HN.out, AR.out.1, by have := AR.out.2.2.2; have := HI.out.2.2; omega, A2, O2⟩
        case measure => simp [intOf]; exact HI.out.1
    · obtain rfl : j = 0 := by omega
      rw [bits_nought] at HN
      have HF := Lib.hid HN.out.symm
      clear HN
      go_wp2
      go_ret2
      rw [HF.out]
      exact ⟨rfl, A.out, O.out⟩
theorem Bits_none (wide : Value) (w : World) : Calls Try.prog 37 #[.pointer none, wide] w fun en w' => en = .returned (.tuple #[.int .u32 0, .int .i64 1]) ∧ w' = w := by
  go_enter Try.func37, Try.ntmps37
  go_wp2
  go_ret2
  exact ⟨rfl, rfl⟩
theorem Bits_bad (d : Nat) (wide : Int) (hb : wide < 0 ∨ 24 < wide) (w : World) :
    Calls Try.prog 37 #[.pointer (some ⟨d, 0, none⟩), .int .i64 wide] w fun en w' => en = .returned (.tuple #[.int .u32 0, .int .i64 1]) ∧ w' = w := by
  by_cases h1 : wide < 0
  · clear hb
    go_enter Try.func37, Try.ntmps37
    go_wp2
    go_ret2
    exact ⟨rfl, rfl⟩
  have h2 : 24 < wide := by omega
  clear hb
  go_enter Try.func37, Try.ntmps37
  go_wp2
  go_ret2
  exact ⟨rfl, rfl⟩
end Go.Proofs.Ytlbjoflmfboeeaa.Deco

/-
  The walks of the document's decoder: next, Open, At, Take, Symbol, Bits; no condition but those told.
-/
set_option linter.unusedVariables false
set_option linter.unusedSimpArgs false
namespace Go.Proofs.Ytlbjoflmfboeeaa.Deco
open Go.RowKit Go.Proofs.Ytlbjoflmfboeeaa Go.Proofs.YtlbjoflmfboeeaaW.PrintWords

attribute [local irreducible] bt
set_option maxHeartbeats 2000000 in
set_option maxRecDepth 100000 in
theorem rnext_calls {w : World} {d : Nat} {s : DSt} {v : Value} (a : Is w d 69 .i64 s v) (hb : Byt s.bs) (c0 : 0 ≤ s.co) (c1 : s.co < 16777216) (hn : s.n ≤ 1000000000000) :
    Calls Try.prog 68 #[.pointer (some ⟨d, 0, none⟩)] w fun e w' => e = .returned (.tuple #[]) ∧ Is w' d 69 .i64 (nextS s) v ∧ At d w w' := by
  have hbt := bt_bd hb
  have HBt : Hid (bt s = s.bs.getD s.n 0) := Lib.hid (by unfold bt; rfl)
  have A := Lib.hid a
  obtain ⟨bs, n, co, sz⟩ := s
  simp only at *
  have d2 := a.blk.cell (i := 2) rfl
  have f2 := a.blk.free 2
  have hl := hb.2
  have HNx : Hid (nextS ⟨bs, n, co, sz⟩ = ⟨bs, n + 1, co * 256 + bt ⟨bs, n, co, sz⟩, sz⟩) := Lib.hid rfl
  generalize bt ⟨bs, n, co, sz⟩ = x at *
  clear a hb
  have e1 : IntKind.i64.wrap (co * 256) = co * 256 := wrapI64 (by omega) (by omega)
  go_enter Try.func68, Try.ntmps68
  go_wp2
  have A2 := Lib.hid (A.out.co_ (co * 256))
  have O2 := Lib.hid ((At.refl d w).cell 2 (.int .i64 (co * 256)))
  clear d2 f2 A
  generalize w.setCell ⟨d, 2, none⟩ (.int .i64 (co * 256)) = w2 at *
  have d0 := A2.out.blk.cell (i := 0) rfl
  have d1 := A2.out.blk.cell (i := 1) rfl
  have d2 := A2.out.blk.cell (i := 2) rfl
  have f1 := A2.out.blk.free 1
  have f2 := A2.out.blk.free 2
  by_cases hc : n < bs.length
  · obtain ⟨g, cap, rfl, hr⟩ : ∃ g cap, v = .slice (some ⟨g, 0, none⟩) bs.length cap ∧ RowI w2 5 .u8 g cap bs := by
      rcases A2.out.sl with ⟨_, h⟩ | h
      · simp only at h; subst h; simp at hc
      · exact h
    have d3 := hr.cell hc
    have hx : bs[n] = x := by rw [HBt.out, List.getD_eq_getElem?_getD, List.getElem?_eq_getElem hc]; rfl
    rw [hx] at d3
    have e2 : IntKind.i64.wrap (co * 256 + x) = co * 256 + x := wrapI64 (by omega) (by omega)
    have e3 : IntKind.i64.wrap x = x := wrapI64 (by omega) (by omega)
    have HC := Lib.hid hc
    have i1 : (n : Int) < bs.length := by omega
    clear hr hx HBt
    go_quiet (fail)
    have A3 := Lib.hid (A2.out.drewN nq)
    have O3 := Lib.hid (O2.out.drewN nq)
    clear d0 d1 d2 f1 f2 A2 O2
    have d3 : (w2.drewN nq).cell? ⟨g, n, none⟩ = some (.int .u8 x) := d3
    generalize w2.drewN nq = w3 at *
    have d0 := A3.out.blk.cell (i := 0) rfl
    have d1 := A3.out.blk.cell (i := 1) rfl
    have d2 := A3.out.blk.cell (i := 2) rfl
    have f1 := A3.out.blk.free 1
    have f2 := A3.out.blk.free 2
    go_wp2
    go_still_tail 19, (by kernel_rfl)
    go_wp2
    rw [HNx.out]
    exact bodyPost_end (results_none rfl _ _ _) rfl ⟨rfl, (A3.out.co_ _).inc.drew, ((At.cell O3.out 2 _).cell 1 _).drew⟩
  · have hx : x = 0 := by rw [HBt.out, List.getD_eq_getElem?_getD, List.getElem?_eq_none (by omega)]; rfl
    have HC := Lib.hid hc
    subst hx
    rw [Int.add_zero] at HNx
    obtain ⟨ad, cap, rfl, _⟩ := A2.out.sl.form
    have i1 : ¬ (n : Int) < bs.length := by omega
    clear HBt
    go_quiet (fail)
    have A3 := Lib.hid (A2.out.drewN nq)
    have O3 := Lib.hid (O2.out.drewN nq)
    clear d0 d1 d2 f1 f2 A2 O2
    generalize w2.drewN nq = w3 at *
    have d1 := A3.out.blk.cell (i := 1) rfl
    have f1 := A3.out.blk.free 1
    go_wp2
    rw [HNx.out]
    exact bodyPost_end (results_none rfl _ _ _) rfl ⟨rfl, A3.out.inc, At.cell O3.out 1 _⟩
theorem rat_calls {w : World} {d : Nat} {s : DSt} {v : Value} (a : Is w d 69 .i64 s v) (ok : s.Ready) (al : Int) (a0 : 1 ≤ al) (a1 : al ≤ 8192) :
    Calls Try.prog 73 #[.pointer (some ⟨d, 0, none⟩), .int .i64 al] w fun e w' => e = .returned (.int .i64 (atS s al)) ∧ ∃ n, w' = w.drewN n := by
  have d2 := a.blk.cell (i := 2) rfl
  have d3 := a.blk.cell (i := 3) rfl
  obtain ⟨each, hE⟩ : ∃ each, each = s.sz / al := ⟨_, rfl⟩
  have b3 := Enc.each_lo al s.sz a0 a1 ok.s0
  rw [← hE] at b3
  have HA : Hid (atS s al = min (s.co / each) (al - 1)) := Lib.hid (by unfold atS; rw [hE])
  have e1 : Int.tdiv s.sz al = each := by rw [hE, Int.tdiv_eq_ediv_of_nonneg (by have := ok.s0; omega)]
  have b5 : each ≤ s.sz := by rw [hE]; exact Int.ediv_le_self _ (by have := ok.s0; omega)
  obtain ⟨hb, c0, c1, s0, s1⟩ := ok
  obtain ⟨q, hq⟩ : ∃ q, q = s.co / each := ⟨_, rfl⟩
  have e2 : Int.tdiv s.co each = q := by rw [hq, Int.tdiv_eq_ediv_of_nonneg c0]
  have q0 : 0 ≤ q := by rw [hq]; exact Int.ediv_nonneg c0 (by omega)
  have q1 : q ≤ s.co := by rw [hq]; exact Int.ediv_le_self _ c0
  rw [← hq] at HA
  have z1 : al ≠ 0 := by omega
  have z2 : (al == 0) = false := by rw [beq_eq_false_iff_ne]; omega
  have z3 : each ≠ 0 := by omega
  have z4 : (each == 0) = false := by rw [beq_eq_false_iff_ne]; omega
  have w1 : IntKind.i64.wrap each = each := wrapI64 (by omega) (by omega)
  have w2 : IntKind.i64.wrap q = q := wrapI64 (by omega) (by omega)
  have w3 : IntKind.i64.wrap (al - 1) = al - 1 := wrapI64 (by omega) (by omega)
  clear hE hq a hb
  obtain ⟨bs, n, co, sz⟩ := s
  simp only at *
  go_enter Try.func73, Try.ntmps73
  go_wp2
  go_quiet (fail)
  by_cases h : al ≤ q
  · have hm : min q (al - 1) = al - 1 := by omega
    rw [hm] at HA
    go_wp2
    go_ret
    rw [HA.out]
    exact ⟨rfl, nq, rfl⟩
  · have hm : min q (al - 1) = q := by omega
    rw [hm] at HA
    go_wp2
    go_ret
    rw [HA.out]
    exact ⟨rfl, nq, rfl⟩
set_option maxHeartbeats 4000000 in
set_option maxRecDepth 100000 in
theorem rtake_calls {w : World} {d : Nat} {s : DSt} {v : Value} (a : Is w d 69 .i64 s v) (ok : s.Ready) (lo ow al : Int) (may : Enc.May lo ow al) (le : s.sz / al * lo ≤ s.co) (hn : s.n ≤ 900000000000) :
    Calls Try.prog 74 #[.pointer (some ⟨d, 0, none⟩), .int .i64 lo, .int .i64 ow, .int .i64 al] w fun e w' => e = .returned (.tuple #[]) ∧ Is w' d 69 .i64 (takeS s lo ow al) v ∧ At d w w' := by
  obtain ⟨p0, p1, p2, p3⟩ := may
  have hd := a.blk.lt
  obtain ⟨each, hE⟩ : ∃ each, each = s.sz / al := ⟨_, rfl⟩
  obtain ⟨q, hq⟩ : ∃ q, q = each * lo := ⟨_, rfl⟩
  obtain ⟨r, hr⟩ : ∃ r, r = each * ow := ⟨_, rfl⟩
  have b1 := Enc.mul_bd each lo al s.sz hE (by omega) p0 (by omega) (by have := ok.s0; omega)
  have b2 := Enc.mul_bd each ow al s.sz hE (by omega) (by omega) (by omega) (by have := ok.s0; omega)
  have b3 := Enc.each_lo al s.sz (by omega) p3 ok.s0
  have b4 : each * 1 ≤ each * ow := Int.mul_le_mul_of_nonneg_left p1 (by omega)
  have b5 : each ≤ s.sz := by rw [hE]; exact Int.ediv_le_self _ (by have := ok.s0; omega)
  have HT : Hid (takeS s lo ow al = dnorm 2 ⟨s.bs, s.n, min (s.co - q) (r - 1), r⟩) := Lib.hid (by unfold takeS; rw [hq, hr, hE])
  have e1 : Int.tdiv s.sz al = each := by rw [hE, Int.tdiv_eq_ediv_of_nonneg (by have := ok.s0; omega)]
  rw [← hE, ← hq] at le
  rw [← hE] at b3
  rw [← hq] at b1
  rw [← hr] at b2 b4
  rw [Int.mul_one] at b4
  have e2 : each * lo = q := hq.symm
  have e3 : each * ow = r := hr.symm
  have BY := Lib.hid ok.by_
  have A := Lib.hid a
  obtain ⟨_, c0, c1, s0, s1⟩ := ok
  obtain ⟨bs, n, co, sz⟩ := s
  simp only at *
  have d3 := a.blk.cell (i := 3) rfl
  have d2 := a.blk.cell (i := 2) rfl
  have f2 := a.blk.free 2
  have f3 := a.blk.free 3
  have z1 : al ≠ 0 := by omega
  have z2 : (al == 0) = false := by rw [beq_eq_false_iff_ne]; omega
  have w1 : IntKind.i64.wrap each = each := wrapI64 (by omega) (by omega)
  have w2 : IntKind.i64.wrap q = q := wrapI64 (by omega) (by omega)
  have w3 : IntKind.i64.wrap r = r := wrapI64 (by omega) (by omega)
  have w4 : IntKind.i64.wrap (co - q) = co - q := wrapI64 (by omega) (by omega)
  have w5 : IntKind.i64.wrap (r - 1) = r - 1 := wrapI64 (by omega) (by omega)
  obtain ⟨x, hx⟩ : ∃ x, x = min (co - q) (r - 1) := ⟨_, rfl⟩
  rw [← hx] at HT
  have x0 : 0 ≤ x := by omega
  have x1 : x ≤ r - 1 := by omega
  clear hE hq hr a
  go_enter Try.func74, Try.ntmps74
  go_wp2
  have A3 := Lib.hid ((A.out.co_ (co - q)).sz_ r)
  have O3 := Lib.hid (At.cell (At.cell (At.refl d w) 2 (.int .i64 (co - q))) 3 (.int .i64 r))
  clear d2 d3 f2 f3 A
  generalize ((w.setCell ⟨d, 2, none⟩ (.int .i64 (co - q))).setCell ⟨d, 3, none⟩ (.int .i64 r)) = w3 at *
  have d2 := A3.out.blk.cell (i := 2) rfl
  have d3 := A3.out.blk.cell (i := 3) rfl
  have f2 := A3.out.blk.free 2
  have f3 := A3.out.blk.free 3
  go_quiet (fail)
  by_cases hc : r ≤ co - q
  · obtain rfl : x = r - 1 := by omega
    clear hx
    have d2 : (w3.drewN nq).cell? ⟨d, 2, none⟩ = _ := d2
    have d3 : (w3.drewN nq).cell? ⟨d, 3, none⟩ = _ := d3
    have f2 : (w3.drewN nq).frozen? ⟨d, 2, none⟩ = _ := f2
    go_wp2_with fail
    have A4 := Lib.hid ((A3.out.drewN nq).co_ (r - 1))
    have O4 := Lib.hid (At.cell (O3.out.drewN nq) 2 (.int .i64 (r - 1)))
    clear d2 d3 f2 f3 A3 O3 w1 w4 w5 e1 e2 e3
    generalize ((w3.drewN nq).setCell ⟨d, 2, none⟩ (.int .i64 (r - 1))) = w4 at *
    go_loopg [] 2 (fun j wr => ∃ t : DSt, j ≤ 2 ∧ Enc.lw j ≤ t.sz ∧ t.sz < 4294967296 ∧ 0 ≤ t.co ∧ t.co < t.sz ∧ Hid (Byt t.bs) ∧ t.n + j ≤ 900000000002 ∧ Hid (dnorm j t = takeS ⟨bs, n, co, sz⟩ lo ow al) ∧ Hid (Is wr d 69 .i64 t v) ∧ Hid (At d w wr))
    case atStart => exact ⟨⟨bs, n, r - 1, r⟩, Nat.le_refl _, by show (256 : Int) ≤ r; omega, by simp only; omega, x0, by simp only; omega, BY, by simp only; omega, HT.out.symm, A4, O4⟩
    case round =>
      clear A4 O4 HT BY
      obtain ⟨t, hj2, hlw, ts1, t0, t1, BY, hnn, HN, A3, O3⟩ := hrel
      have d3 := A3.out.blk.cell (i := 3) rfl
      have f3 := A3.out.blk.free 3
      by_cases hc : t.sz < 16777216
      · have hg : 0 < gk := by
          rcases Nat.eq_zero_or_pos gk with h | h
          · subst h; have : (16777216 : Int) ≤ t.sz := hlw; omega
          · exact h
        obtain ⟨j, rfl⟩ : ∃ j, gk = j + 1 := ⟨gk - 1, by omega⟩
        have HSt : Hid (dnorm (j + 1) t = dnorm j (nextS ⟨t.bs, t.n, t.co, t.sz * 256⟩)) := Lib.hid (by show (if t.sz < 16777216 then dnorm j (nextS ⟨t.bs, t.n, t.co, t.sz * 256⟩) else t) = _; rw [if_pos hc])
        have hlw2 : Enc.lw j ≤ t.sz * 256 := by
          rcases (show j = 0 ∨ j = 1 by omega) with h | h
          · subst h; have : (65536 : Int) ≤ t.sz := hlw; show (16777216 : Int) ≤ _; omega
          · subst h; have : (256 : Int) ≤ t.sz := hlw; show (65536 : Int) ≤ _; omega
        have NX := Lib.hid (rnext_calls (A3.out.sz_ (t.sz * 256)) BY.out t0 (by simp only; omega) (by simp only; omega))
        have O4 := Lib.hid (At.cell O3.out 3 (.int .i64 (t.sz * 256)))
        have w1 : IntKind.i64.wrap (t.sz * 256) = t.sz * 256 := wrapI64 (by omega) (by omega)
        have hbt := bt_bd (s := ⟨t.bs, t.n, t.co, t.sz * 256⟩) BY.out
        clear hlw
        obtain ⟨tsz, htz⟩ : ∃ tsz, t.sz = tsz := ⟨_, rfl⟩
        rw [htz] at d3 ts1 t1 hc hlw2 O4 NX HSt w1 hbt
        clear htz
        go_wp2_with (go_at_call 68; refine NX.out.mono ?_; rintro e w4 ⟨rfl, a4, o4⟩; have A4 := Lib.hid a4; have O5 := Lib.hid (O4.out.trans o4); clear a4 o4)
        go_roundg j
        case measure => omega
        case rel => exact ⟨nextS ⟨t.bs, t.n, t.co, tsz * 256⟩, by omega, hlw2, by show tsz * 256 < _; omega, by show 0 ≤ t.co * 256 + _; omega, by show t.co * 256 + _ < tsz * 256; omega, BY, by show t.n + 1 + j ≤ _; omega, HSt.out.symm.trans HN.out, A4, O5⟩
      · have HF : Hid (takeS ⟨bs, n, co, sz⟩ lo ow al = t) := Lib.hid (HN.out.symm.trans (by
          cases gk with
          | zero => rfl
          | succ j => show (if t.sz < 16777216 then dnorm j _ else t) = _; rw [if_neg hc]))
        clear HN
        go_wp2
        rw [HF.out]
        exact bodyPost_end (results_none rfl _ _ _) rfl ⟨rfl, A3.out, O3.out⟩
  · obtain rfl : x = co - q := by omega
    clear hx
    go_wp2_with fail
    have A4 := Lib.hid (A3.out.drewN nq)
    have O4 := Lib.hid (O3.out.drewN nq)
    clear d2 d3 f2 f3 A3 O3 w1 w4 w5 e1 e2 e3
    generalize (w3.drewN nq) = w4 at *
    go_loopg [] 2 (fun j wr => ∃ t : DSt, j ≤ 2 ∧ Enc.lw j ≤ t.sz ∧ t.sz < 4294967296 ∧ 0 ≤ t.co ∧ t.co < t.sz ∧ Hid (Byt t.bs) ∧ t.n + j ≤ 900000000002 ∧ Hid (dnorm j t = takeS ⟨bs, n, co, sz⟩ lo ow al) ∧ Hid (Is wr d 69 .i64 t v) ∧ Hid (At d w wr))
    case atStart => exact ⟨⟨bs, n, co - q, r⟩, Nat.le_refl _, by show (256 : Int) ≤ r; omega, by simp only; omega, x0, by simp only; omega, BY, by simp only; omega, HT.out.symm, A4, O4⟩
    case round =>
      clear A4 O4 HT BY
      obtain ⟨t, hj2, hlw, ts1, t0, t1, BY, hnn, HN, A3, O3⟩ := hrel
      have d3 := A3.out.blk.cell (i := 3) rfl
      have f3 := A3.out.blk.free 3
      by_cases hc : t.sz < 16777216
      · have hg : 0 < gk := by
          rcases Nat.eq_zero_or_pos gk with h | h
          · subst h; have : (16777216 : Int) ≤ t.sz := hlw; omega
          · exact h
        obtain ⟨j, rfl⟩ : ∃ j, gk = j + 1 := ⟨gk - 1, by omega⟩
        have HSt : Hid (dnorm (j + 1) t = dnorm j (nextS ⟨t.bs, t.n, t.co, t.sz * 256⟩)) := Lib.hid (by show (if t.sz < 16777216 then dnorm j (nextS ⟨t.bs, t.n, t.co, t.sz * 256⟩) else t) = _; rw [if_pos hc])
        have hlw2 : Enc.lw j ≤ t.sz * 256 := by
          rcases (show j = 0 ∨ j = 1 by omega) with h | h
          · subst h; have : (65536 : Int) ≤ t.sz := hlw; show (16777216 : Int) ≤ _; omega
          · subst h; have : (256 : Int) ≤ t.sz := hlw; show (65536 : Int) ≤ _; omega
        have NX := Lib.hid (rnext_calls (A3.out.sz_ (t.sz * 256)) BY.out t0 (by simp only; omega) (by simp only; omega))
        have O4 := Lib.hid (At.cell O3.out 3 (.int .i64 (t.sz * 256)))
        have w1 : IntKind.i64.wrap (t.sz * 256) = t.sz * 256 := wrapI64 (by omega) (by omega)
        have hbt := bt_bd (s := ⟨t.bs, t.n, t.co, t.sz * 256⟩) BY.out
        clear hlw
        obtain ⟨tsz, htz⟩ : ∃ tsz, t.sz = tsz := ⟨_, rfl⟩
        rw [htz] at d3 ts1 t1 hc hlw2 O4 NX HSt w1 hbt
        clear htz
        go_wp2_with (go_at_call 68; refine NX.out.mono ?_; rintro e w4 ⟨rfl, a4, o4⟩; have A4 := Lib.hid a4; have O5 := Lib.hid (O4.out.trans o4); clear a4 o4)
        go_roundg j
        case measure => omega
        case rel => exact ⟨nextS ⟨t.bs, t.n, t.co, tsz * 256⟩, by omega, hlw2, by show tsz * 256 < _; omega, by show 0 ≤ t.co * 256 + _; omega, by show t.co * 256 + _ < tsz * 256; omega, BY, by show t.n + 1 + j ≤ _; omega, HSt.out.symm.trans HN.out, A4, O5⟩
      · have HF : Hid (takeS ⟨bs, n, co, sz⟩ lo ow al = t) := Lib.hid (HN.out.symm.trans (by
          cases gk with
          | zero => rfl
          | succ j => show (if t.sz < 16777216 then dnorm j _ else t) = _; rw [if_neg hc]))
        clear HN
        go_wp2
        rw [HF.out]
        exact bodyPost_end (results_none rfl _ _ _) rfl ⟨rfl, A3.out, O3.out⟩
set_option maxHeartbeats 2000000 in
set_option maxRecDepth 100000 in
theorem Open_calls {w : World} {u : Value} {bs : List Int} (src : Src w .u8 u bs) (hb : Byt bs) :
    Calls Try.prog 34 #[u] w fun e w' => ∃ d v, e = .returned (.pointer (some ⟨d, 0, none⟩)) ∧ w.heap.size ≤ d ∧ (∀ g, v.ownBlock = some g → w.heap.size ≤ g) ∧ Is w' d 69 .i64 (openS bs) v ∧ Below w.heap.size w w' := by
  have hl := hb.2
  have S0 := Lib.hid (Sl.empty w 5 .u8)
  have SR := Lib.hid (Src.below src ((Below.refl _ _).alloc (Nat.le_refl _) (.cells #[] 5) : Below _ _ _))
  have HB := Lib.hid hb
  clear src hb
  go_enter Try.func34, Try.ntmps34
  go_wp2_with (at_builtin; refine wpList_add (.tmp 5) (.tmp 6) 35 5 .u8 0 1 rfl rfl Try.underlying35 Enc.info_u8 _ _ [] bs rfl rfl S0.out SR.out (by simp; omega) (by simp; omega) ?_
               intro v1 w1 hp
               have S1 := Lib.hid hp.sl
               have O1 := Lib.hid (Added.fresh hp).2
               have hs1 := (Added.fresh hp).1.size
               have B1 := Lib.hid (Added.fresh hp).1
               clear hp
               obtain ⟨ad, cap, rfl, _⟩ := S1.out.form
               rw [List.nil_append] at S1 O1)
  have HI : Hid (Is (w1.alloc (.cells #[.slice ad bs.length cap, .int .i64 0, .int .i64 0, .int .i64 4294967295] 69)) w1.heap.size 69 .i64 ⟨bs, 0, 0, 4294967295⟩ (.slice ad bs.length cap)) :=
    Lib.hid ⟨Blk.new w1 _ _, S1.out.alloc _, fun e => by have := S1.out.lt e; omega⟩
  have B2 : Hid (Below w.heap.size w (w1.alloc (.cells #[.slice ad bs.length cap, .int .i64 0, .int .i64 0, .int .i64 4294967295] 69))) := Lib.hid (B1.out.alloc hs1 _)
  clear B1
  go_loopw [4] (fun i wr => ∃ (k : Nat) (t : DSt), k ≤ 4 ∧ i = .int .i64 (k : Int) ∧ Hid (nexts (4 - k) t = openS bs) ∧ Hid (Byt t.bs) ∧ 0 ≤ t.co ∧ Hid (t.co < 256 ^ k) ∧ t.n = k ∧ Hid (Is wr w1.heap.size 69 .i64 t (.slice ad bs.length cap)) ∧ Hid (Below w.heap.size w wr)) (fun i _ => 4 - (intOf i).toNat)
  case atStart => exact ⟨0, ⟨bs, 0, 0, 4294967295⟩, by omega, rfl, rfl, HB, by simp only; omega, Lib.hid (by show (0 : Int) < 256 ^ 0; decide), rfl, HI, B2⟩
  case round =>
    clear HI B2 HB
    obtain ⟨k, t, hk, rfl, HN, HB, t0, HL, hn, HI, B2⟩ := hrel
    by_cases hlt : k < 4
    · have hp := pow_lt4 hlt
      have hL := HL.out
      have NX := Lib.hid (rnext_calls HI.out HB.out t0 (by omega) (by omega))
      clear hp hL
      go_wp2_with (go_at_call 68; refine NX.out.mono ?_; rintro e w4 ⟨rfl, a4, o4⟩; have A4 := Lib.hid a4; have O5 := Lib.hid o4; clear a4 o4)
      go_roundw
      case rel =>
        have hbt := bt_bd HB.out
        refine ⟨k + 1, nextS t, by omega, by push_cast; rfl, ?_, HB, by show 0 ≤ t.co * 256 + _; omega, ?_, by show t.n + 1 = k + 1; omega, A4, B2.out.trans (O5.out.below (by have := B2.out.size; omega) (fun i hi => by omega))⟩
        · have e : 4 - k = (4 - (k + 1)) + 1 := by omega
          have := HN.out
          rw [e] at this
          exact this
        · have hL := HL.out
          show t.co * 256 + _ < (256 : Int) ^ (k + 1)
          rw [Int.pow_succ]; omega
      case measure => simp [intOf]; omega
    · obtain rfl : k = 4 := by omega
      have hN : t = openS bs := HN.out
      subst hN
      go_wp2
      go_ret
      exact ⟨w1.heap.size, _, rfl, hs1, O1.out, HI.out, B2.out⟩
attribute [local irreducible] takeS atS
set_option maxHeartbeats 2000000 in
set_option maxRecDepth 100000 in
theorem RSymbol_yes {w : World} {d m h cap : Nat} {s : DSt} {v : Value} {L : List Int} {f : Bool} (a : Is w d 69 .i64 s v) (ok : s.Ready) (hn : s.n ≤ 900000000000) (b : Mdl.IsR w m h cap L f) (good : Mdl.Good L)
    (n1 : d ≠ m) (n2 : d ≠ h) (n3 : v.ownBlock ≠ some m) (n4 : v.ownBlock ≠ some h) :
    Calls Try.prog 36 #[.pointer (some ⟨d, 0, none⟩), .pointer (some ⟨m, 0, none⟩)] w fun e w' => e = .returned (.int .i64 (symK s L)) ∧
      Is w' d 69 .i64 (symS s L) v ∧ Mdl.IsR w' m h cap (Mdl.next f L (symK s L)) f ∧ Only (fun i => i = d ∨ (i = m ∨ i = h)) w w' := by
  have A := Lib.hid a
  have B := Lib.hid b
  have G := Lib.hid good
  have OK := Lib.hid ok
  have N3 := Lib.hid n3
  have N4 := Lib.hid n4
  have lm := b.blk.lt
  have lh := b.row.lt
  have ld := a.blk.lt
  have hl64 := good.len2
  have hall := good.all
  have d0 := b.blk.cell (i := 0) rfl
  have hk0 := sym_lt (s := s) good
  have HK := Lib.hid (sym_lt (s := s) good)
  have MY := Lib.hid (Enc.may_of good _ (sym_lt (s := s) good))
  have LE := Lib.hid (sym_le ok good)
  have HS : Hid (symS s L = takeS s (Mdl.lsum (L.take (symK s L))) (L.getD (symK s L) 0) (Mdl.lsum L)) := Lib.hid rfl
  have HF : Hid (Mdl.find L (atS s (Mdl.lsum L)) = symK s L) := Lib.hid rfl
  have AB := Lib.hid (at_bd ok good.sum1 good.all)
  have C2 := Lib.hid (Mdl.RSum_calls b good.nonneg (by omega) L.length (Nat.le_refl _) hl64)
  rw [List.take_of_length_le (Nat.le_refl _)] at C2
  have al0 := Lib.hid good.sum1
  have al1 := Lib.hid good.all
  have CA := Lib.hid (rat_calls a ok (Mdl.lsum L) good.sum1 good.all)
  have dk := b.row.cell hk0
  have hg : L.getD (symK s L) 0 = L[symK s L] := Dig.getD_get L _ hk0
  rw [hg] at MY HS
  generalize L[symK s L]'hk0 = ow at *
  have FD := Lib.hid (fun n => Mdl.RFind_calls (b.drewN n) good (atS s (Mdl.lsum L)) AB.out.1 (by have := AB.out.2; omega))
  rw [HF.out] at FD
  obtain ⟨al, hal⟩ : ∃ al, Mdl.lsum L = al := ⟨_, rfl⟩
  rw [hal] at MY LE HS HF AB al0 al1 C2 hall CA FD
  clear hal
  obtain ⟨k, hk⟩ : ∃ k, symK s L = k := ⟨_, rfl⟩
  rw [hk] at HK MY LE HS HF hk0 dk FD ⊢
  clear hk hg
  obtain ⟨lo, hlo⟩ : ∃ x, Mdl.lsum (L.take k) = x := ⟨_, rfl⟩
  rw [hlo] at MY HS LE
  have HLo := Lib.hid hlo
  clear hlo a b good ok n3 n4
  obtain ⟨n, hn2⟩ : ∃ n, L.length = n := ⟨_, rfl⟩
  have HN := Lib.hid hn2
  rw [hn2] at d0 C2 HK hk0
  clear hn2
  have ik : (k : Int) < (n : Int) := by omega
  obtain ⟨x, hx⟩ : ∃ x, atS s al = x := ⟨_, rfl⟩
  rw [hx] at CA FD
  clear hx
  go_enter Try.func36, Try.ntmps36
  go_wp2_with fail
  refine C2.out.mono ?_
  rintro e1 w1 ⟨rfl, he⟩
  subst w1
  go_wp2_with fail
  refine CA.out.mono ?_
  rintro e2 w2 ⟨rfl, nd, rfl⟩
  go_wp2_with fail
  refine (FD.out nd).mono ?_
  rintro e3 w3 ⟨rfl, rfl⟩
  have A2 := Lib.hid (A.out.drewN nd)
  have B2 := Lib.hid (B.out.drewN nd)
  have O2 : Hid (Only (fun i => i = d ∨ (i = m ∨ i = h)) w (w.drewN nd)) := Lib.hid ((Only.refl _ w).drewN nd)
  have d0 : (w.drewN nd).cell? ⟨m, 0, none⟩ = _ := d0
  have dk : (w.drewN nd).cell? ⟨h, k, none⟩ = _ := dk
  clear C2 CA FD A B
  generalize w.drewN nd = w2 at *
  have C1 : Hid (∀ n, Calls Try.prog 63 #[.pointer (some ⟨m, 0, none⟩), .int .i64 k] (w2.drewN n) fun e w' => e = .returned (.int .i64 lo) ∧ w' = w2.drewN n) :=
    Lib.hid (fun n => by have := Mdl.RSum_calls (B2.out.drewN n) G.out.nonneg (by have := G.out.all; omega) k (by rw [HN.out]; omega) hl64; rwa [HLo.out] at this)
  go_wp2_with fail
  refine region_quiet_tail 12 (by kernel_rfl) (by kernel_rfl) ?_
  simp only [List.take_succ_cons, List.take_zero, List.drop_succ_cons, List.drop_zero]
  repeat (quiet_step ((go_at_call 63; first | (with_reducible exact Calls.quiet_of_same (C1.out _)))))
  refine wpQuiet_nil ?_
  rintro _ ⟨nq, rfl⟩
  have CT := Lib.hid (rtake_calls (A2.out.drewN nq) OK.out lo ow al MY.out LE.out hn)
  go_wp2_with fail
  refine CT.out.mono ?_
  rintro e4 w4 ⟨rfl, a4, o4⟩
  have A4 := Lib.hid a4
  have B4 : Hid (Mdl.IsR w4 m h cap L f) := Lib.hid ((B2.out.drewN nq).only o4 (fun hh => n1 hh.symm) (fun hh => n2 hh.symm))
  have O4 : Hid (Only (fun i => i = d ∨ (i = m ∨ i = h)) w w4) := Lib.hid ((O2.out.drewN nq).then o4 (fun i hi => .inl (.inl hi)))
  clear a4 o4 CT A2 B2 O2 C1 d0 dk
  have HK2 : Hid (k < L.length) := Lib.hid (by rw [HN.out]; exact hk0)
  go_wp2_with fail
  refine (Mdl.RLearn_any B4.out G.out k HK2.out).mono ?_
  rintro e5 w5 ⟨rfl, b5, o5⟩
  have A5 := Lib.hid (A4.out.only o5 (fun hh => by rcases hh with hh | hh; exact n1 hh; exact n2 hh) (fun g hg hh => by
    rcases hh with hh | hh
    · subst hh; exact N3.out hg
    · subst hh; exact N4.out hg))
  have B5 := Lib.hid b5
  have O5 : Hid (Only (fun i => i = d ∨ (i = m ∨ i = h)) w w5) := Lib.hid (O4.out.then o5 (fun i hi => .inl (.inr hi)))
  clear b5 o5
  go_wp2_with fail
  go_ret
  rw [HS.out]
  exact ⟨rfl, A5.out, B5.out, O5.out⟩
attribute [local irreducible] bitsD
set_option maxHeartbeats 2000000 in
set_option maxRecDepth 100000 in
theorem RBits_yes {w : World} {d : Nat} {s : DSt} {v : Value} (a : Is w d 69 .i64 s v) (ok : s.Ready) (hn : s.n ≤ 800000000000) (wide : Nat) (h2 : wide ≤ 24) :
    Calls Try.prog 38 #[.pointer (some ⟨d, 0, none⟩), .int .i64 wide] w fun en w' => en = .returned (.int .i64 (bitsD s 0 wide).1) ∧ Is w' d 69 .i64 (bitsD s 0 wide).2 v ∧ At d w w' := by
  have A := Lib.hid a
  have R0 := Lib.hid ok
  clear a ok
  go_enter Try.func38, Try.ntmps38
  go_wp2
  go_loopw [1, 5] (fun u nv wr => ∃ (j : Nat) (t : DSt) (n : Int), j ≤ 24 ∧ u = .int .i64 (j : Int) ∧ nv = .int .i64 n ∧ 0 ≤ n ∧ Hid ((n + 1) * 2 ^ j ≤ 16777216) ∧ Hid (bitsD t n j = bitsD s 0 wide) ∧ Hid t.Ready ∧ t.n + 4 * j ≤ 900000000000 ∧ Hid (Is wr d 69 .i64 t v) ∧ Hid (At d w wr)) (fun u _ _ => (intOf u).toNat)
  case atStart => exact ⟨wide, s, 0, h2, rfl, rfl, Int.le_refl _, Lib.hid (by have := pow24 h2; omega), rfl, R0, by omega, A, At.refl d w⟩
  case round =>
    clear A R0
    obtain ⟨j, t, n, hj, rfl, rfl, n0, HL, HN, R0, hkk, A, O⟩ := hrel
    have hd := A.out.blk.lt
    by_cases hz : 0 < j
    · obtain ⟨k, i, hk0, hk12, hji, hkm, hst⟩ := bits_more (n := n) R0.out hz hj
      have hp := pow12 hk12
      have HP := Lib.hid hp
      have hp8 : (2 : Int) ^ k ≤ 8192 := by omega
      have AR := Lib.hid (at_ready R0.out hp.1 hp8)
      have AM := Lib.hid (at_may R0.out hp.1 hp8)
      have AL := Lib.hid (at_le R0.out hp.1 hp8 (Int.le_refl _))
      have HSt := Lib.hid hst
      have ab := at_bd R0.out hp.1 hp8
      have hL : (n * 2 ^ k + atS t (2 ^ k) + 1) * 2 ^ i ≤ 16777216 ∧ n * 2 ^ k + atS t (2 ^ k) + 1 ≤ 16777216 := by
        have h1 := HL.out
        rw [hji, Nat.add_comm, Int.pow_add, ← Int.mul_assoc] at h1
        have hpi : (0 : Int) < 2 ^ i := Int.pow_pos (by omega)
        have h2 : (n + 1) * 2 ^ k = n * 2 ^ k + 2 ^ k := by rw [Int.add_mul, Int.one_mul]
        rw [h2] at h1
        have h3 : (n * 2 ^ k + atS t (2 ^ k) + 1) * 2 ^ i ≤ (n * 2 ^ k + 2 ^ k) * 2 ^ i := Int.mul_le_mul_of_nonneg_right (by omega) (by omega)
        have h4 : (n * 2 ^ k + atS t (2 ^ k) + 1) * 1 ≤ (n * 2 ^ k + atS t (2 ^ k) + 1) * 2 ^ i := Int.mul_le_mul_of_nonneg_left (by omega) (by have := Int.mul_nonneg n0 (show (0 : Int) ≤ 2 ^ k by omega); omega)
        omega
      have n1 : 0 ≤ n * 2 ^ k := Int.mul_nonneg n0 (by omega)
      have n2 : n * 2 ^ k < 16777216 := by omega
      have HLL := Lib.hid hL
      have HI : Hid (i < j ∧ i ≤ 24 ∧ t.n + 2 + 4 * i ≤ 900000000000) := Lib.hid (by omega)
      have hji2 : (j : Int) - (k : Int) = (i : Int) := by omega
      have PW := Lib.hid (fun wz : World => Enc.power_calls k (by omega) wz)
      have w1 : IntKind.i64.wrap (i : Int) = (i : Int) := wrapI64 (by omega) (by omega)
      clear hst hL HL
      obtain ⟨pk, hpk⟩ : ∃ pk : Int, (2 : Int) ^ k = pk := ⟨_, rfl⟩
      rw [hpk] at HP AR AM AL HSt ab n1 n2 HLL hp hp8 PW
      clear hpk
      obtain ⟨x, hx⟩ : ∃ x, atS t pk = x := ⟨_, rfl⟩
      have CA := Lib.hid (rat_calls A.out R0.out pk HP.out.1 (by have := HP.out.2; omega))
      rw [hx] at ab AR AM AL HSt HLL CA
      clear hx
      obtain ⟨y, hy⟩ : ∃ y, n * pk = y := ⟨_, rfl⟩
      rw [hy] at n1 n2 HSt HLL
      by_cases hc : 12 < j
      · obtain rfl : k = 12 := by omega
        have hc' : (12 : Int) < (j : Int) := by omega
        have hji2 : (j : Int) - 12 = (i : Int) := hji2
        clear hkm hji
        go_wp2_with fail
        refine (PW.out _).mono ?_
        rintro e1 w1 ⟨rfl, rfl⟩
        go_wp2_with fail
        refine CA.out.mono ?_
        rintro e2 w2 ⟨rfl, nq, rfl⟩
        have A1 := Lib.hid (A.out.drewN nq)
        have O1 := Lib.hid (O.out.drewN nq)
        have CT := Lib.hid (rtake_calls A1.out R0.out x 1 pk AM.out AL.out (by omega))
        clear A O CA
        go_wp2_with fail
        refine (PW.out _).mono ?_
        rintro e3 w3 ⟨rfl, rfl⟩
        go_wp2_with fail
        refine CT.out.mono ?_
        rintro e4 w4 ⟨rfl, a2, o2⟩
        have A2 := Lib.hid a2
        have O2 := Lib.hid (O1.out.trans o2)
        clear a2 o2 A1 O1 CT
        go_wp2_with fail
        refine (PW.out _).mono ?_
        rintro e5 w5 ⟨rfl, rfl⟩
        go_wp2_with fail
        go_roundw
        case rel => exact ⟨i, takeS t x 1 pk, y + x, HI.out.2.1, rfl, rfl, by omega, HLL.out.1, HSt.out.symm.trans HN.out, AR.out.1, by have := AR.out.2.2.2; have := HI.out.2.2; omega, A2, O2⟩
        case measure => simp [intOf]; exact HI.out.1
      · obtain rfl : k = j := by omega
        have hc' : ¬ (12 : Int) < (k : Int) := by omega
        clear hkm hji
        go_wp2_with fail
        refine (PW.out _).mono ?_
        rintro e1 w1 ⟨rfl, rfl⟩
        go_wp2_with fail
        refine CA.out.mono ?_
        rintro e2 w2 ⟨rfl, nq, rfl⟩
        have A1 := Lib.hid (A.out.drewN nq)
        have O1 := Lib.hid (O.out.drewN nq)
        have CT := Lib.hid (rtake_calls A1.out R0.out x 1 pk AM.out AL.out (by omega))
        clear A O CA
        go_wp2_with fail
        refine (PW.out _).mono ?_
        rintro e3 w3 ⟨rfl, rfl⟩
        go_wp2_with fail
        refine CT.out.mono ?_
        rintro e4 w4 ⟨rfl, a2, o2⟩
        have A2 := Lib.hid a2
        have O2 := Lib.hid (O1.out.trans o2)
        clear a2 o2 A1 O1 CT
        go_wp2_with fail
        refine (PW.out _).mono ?_
        rintro e5 w5 ⟨rfl, rfl⟩
        go_wp2_with fail
        go_roundw
        case rel => exact ⟨i, takeS t x 1 pk, y + x, HI.out.2.1, rfl, rfl, by omega, HLL.out.1, HSt.out.symm.trans HN.out, AR.out.1, by have := AR.out.2.2.2; have := HI.out.2.2; omega, A2, O2⟩
        case measure => simp [intOf]; exact HI.out.1
    · obtain rfl : j = 0 := by omega
      rw [bits_nought] at HN
      have HF := Lib.hid HN.out.symm
      clear HN
      go_wp2
      go_ret
      rw [HF.out]
      exact ⟨rfl, A.out, O.out⟩
end Go.Proofs.Ytlbjoflmfboeeaa.Deco

/-
  Encoders, decoders and models as objects that lie apart, and their functions' walks told over these. Plain theorems; no condition but those told.
-/
set_option linter.unusedVariables false
set_option linter.unusedSimpArgs false
namespace Go.Proofs.Ytlbjoflmfboeeaa
open Go.RowKit Go.Proofs.YtlbjoflmfboeeaaW.PrintWords

/-- The program's encoder. -/
def encA (e : Nat) (s : Enc.St) : Ast where
  holds w F := ∃ v, Enc.Is w e s v ∧ F = fun i => i = e ∨ v.ownBlock = some i
  lt := fun ⟨v, h, e⟩ hk => by
    subst e
    rcases hk with hk | hk
    · subst hk; exact h.blk.lt
    · exact h.sl.lt hk
  move := fun ⟨v, h, e⟩ hs => by
    subst e
    exact ⟨v, ⟨h.blk.of_same (hs _ (.inl rfl)), h.sl.of_same fun g hg => hs g (.inr hg), h.ne⟩, rfl⟩
/-- The document's encoder. -/
def rencA (e : Nat) (R : Enc.RSt) : Ast where
  holds w F := ∃ g cap, Enc.RIs w e R g cap ∧ F = fun i => i = e ∨ i = g
  lt := fun ⟨g, cap, h, e⟩ hk => by
    subst e
    rcases hk with hk | hk
    · subst hk; exact h.blk.lt
    · subst hk; exact h.row.lt
  move := fun ⟨g, cap, h, e⟩ hs => by
    subst e
    exact ⟨g, cap, ⟨h.blk.of_same (hs _ (.inl rfl)), h.row.of_same (hs _ (.inr rfl)), h.ne⟩, rfl⟩
/-- The program's model. -/
def mdlA (m : Nat) (L : List Int) (f : Bool) : Ast where
  holds w F := ∃ h cap, Mdl.Is w m h cap L f ∧ F = fun i => i = m ∨ i = h
  lt := fun ⟨g, cap, h, e⟩ hk => by
    subst e
    rcases hk with hk | hk
    · subst hk; exact h.blk.lt
    · subst hk; exact h.row.lt
  move := fun ⟨g, cap, h, e⟩ hs => by
    subst e
    exact ⟨g, cap, ⟨h.blk.of_same (hs _ (.inl rfl)), h.row.of_same (hs _ (.inr rfl)), h.ne⟩, rfl⟩
/-- The document's model. -/
def rmdlA (m : Nat) (L : List Int) (f : Bool) : Ast where
  holds w F := ∃ h cap, Mdl.IsR w m h cap L f ∧ F = fun i => i = m ∨ i = h
  lt := fun ⟨g, cap, h, e⟩ hk => by
    subst e
    rcases hk with hk | hk
    · subst hk; exact h.blk.lt
    · subst hk; exact h.row.lt
  move := fun ⟨g, cap, h, e⟩ hs => by
    subst e
    exact ⟨g, cap, ⟨h.blk.of_same (hs _ (.inl rfl)), h.row.of_same (hs _ (.inr rfl)), h.ne⟩, rfl⟩
/-- A decoder. -/
def decA (t : TypeId) (k : IntKind) (d : Nat) (s : Deco.DSt) : Ast where
  holds w F := ∃ v, Deco.Is w d t k s v ∧ F = fun i => i = d ∨ v.ownBlock = some i
  lt := fun ⟨v, h, e⟩ hk => by
    subst e
    rcases hk with hk | hk
    · subst hk; exact h.blk.lt
    · exact h.sl.lt hk
  move := fun ⟨v, h, e⟩ hs => by
    subst e
    exact ⟨v, ⟨h.blk.of_same (hs _ (.inl rfl)), h.sl.of_same fun g hg => hs g (.inr hg), h.ne⟩, rfl⟩
abbrev pdecA := decA 120 .u32
abbrev ddecA := decA 69 .i64
section
variable {W w : World} {l : List Ast}
theorem Enc.New_h (H : Hp W w l) : Calls Try.prog 22 #[] w fun en w' => ∃ e, en = .returned (.pointer (some ⟨e, 0, none⟩)) ∧ Hp W w' (encA e fresh :: l) := by
  refine (Enc.New_calls w).mono ?_
  rintro en w' ⟨rfl, i, b⟩
  exact ⟨_, rfl, H.new b (A' := encA _ fresh) ⟨_, i, rfl⟩ (fun k hk => by
    rcases hk with hk | hk
    · omega
    · cases hk)⟩
theorem Enc.RNew_h (H : Hp W w l) : Calls Try.prog 26 #[] w fun en w' => ∃ e, en = .returned (.pointer (some ⟨e, 0, none⟩)) ∧ Hp W w' (rencA e rfresh :: l) := by
  refine (Enc.RNew_calls w).mono ?_
  rintro en w' ⟨rfl, i, b⟩
  exact ⟨_, rfl, H.new b (A' := rencA _ rfresh) ⟨_, _, i, rfl⟩ (fun k hk => by omega)⟩
theorem Mdl.New_h (H : Hp W w l) (n : Nat) (h1 : 1 ≤ n) (h2 : n ≤ 64) : Calls Try.prog 16 #[.int .i64 n] w fun en w' => ∃ m, en = .returned (.tuple #[.pointer (some ⟨m, 0, none⟩), .int .i64 0]) ∧ Hp W w' (mdlA m (List.replicate n 1) false :: l) := by
  refine (Mdl.New_yes n h1 h2 w).mono ?_
  rintro en w' ⟨m, h, rfl, hm, hh, i, b⟩
  exact ⟨m, rfl, H.new b (A' := mdlA m _ false) ⟨h, _, i, rfl⟩ (fun k hk => by omega)⟩
theorem Mdl.RNew_h (H : Hp W w l) (n : Nat) (h1 : 1 ≤ n) (h2 : n ≤ 64) : Calls Try.prog 23 #[.int .i64 n] w fun en w' => ∃ m, en = .returned (.tuple #[.pointer (some ⟨m, 0, none⟩), .bool true]) ∧ Hp W w' (rmdlA m (List.replicate n 1) false :: l) := by
  refine (Mdl.RNew_yes n h1 h2 w).mono ?_
  rintro en w' ⟨m, h, cap, rfl, hm, hh, i, b⟩
  exact ⟨m, rfl, H.new b (A' := rmdlA m _ false) ⟨h, _, i, rfl⟩ (fun k hk => by omega)⟩
theorem Mdl.Fixed_h (H : Hp W w l) (L : List Int) (good : Good L) (A0 : Option Addr) (c0 : Nat) (hr : Kd.C (Kd.int .u32) w A0 L.length L) (hc : L.length ≤ c0) :
    Calls Try.prog 24 #[.slice A0 L.length c0] w fun en w' => ∃ m, en = .returned (.tuple #[.pointer (some ⟨m, 0, none⟩), .int .i64 0]) ∧ Hp W w' (mdlA m L true :: l) := by
  refine (Mdl.Fixed_yes L good A0 c0 w hr hc).mono ?_
  rintro en w' ⟨m, h, cap, rfl, hm, hh, i, b⟩
  exact ⟨m, rfl, H.new b (A' := mdlA m _ true) ⟨h, _, i, rfl⟩ (fun k hk => by omega)⟩
theorem Mdl.RFixed_h (H : Hp W w l) (L : List Int) (good : Good L) (A0 : Option Addr) (c0 : Nat) (hr : Kd.C (Kd.int .u32) w A0 L.length L) (hc : L.length ≤ c0) :
    Calls Try.prog 25 #[.slice A0 L.length c0] w fun en w' => ∃ m, en = .returned (.tuple #[.pointer (some ⟨m, 0, none⟩), .bool true]) ∧ Hp W w' (rmdlA m L true :: l) := by
  refine (Mdl.RFixed_yes L good A0 c0 w hr hc).mono ?_
  rintro en w' ⟨m, h, cap, rfl, hm, hh, i, b⟩
  exact ⟨m, rfl, H.new b (A' := rmdlA m _ true) ⟨h, _, i, rfl⟩ (fun k hk => by omega)⟩
theorem Enc.step_h {e : Nat} {s s' : Enc.St} {v v' : Value} {w' : World} (H : ∀ {w' : World} {A' : Ast} {F' : Nat → Prop}, Only (fun i => i = e ∨ v.ownBlock = some i) w w' → A'.holds w' F' → (∀ k, F' k → (k = e ∨ v.ownBlock = some k) ∨ w.heap.size ≤ k) → Hp W w' (A' :: l)) (a : Enc.Is w' e s' v') (t : Enc.Step e v v' w w') : Hp W w' (encA e s' :: l) :=
  H (A' := encA e s') t.only ⟨v', a, rfl⟩ (fun k hk => by
    rcases hk with hk | hk
    · exact .inl (.inl hk)
    · rcases t.own k hk with h | h
      · exact .inl (.inr h)
      · exact .inr h)
theorem Enc.Put_h {e : Nat} {s : Enc.St} (H : Hp W w (encA e s :: l)) (ok : s.Ready) (small : s.k ≤ 900000000) (lo ow al : Int) (may : May lo ow al) :
    Calls Try.prog 17 #[.pointer (some ⟨e, 0, none⟩), Mdl.part lo ow al] w fun en w' => en = .returned (.int .i64 0) ∧ Hp W w' (encA e (putS s lo ow al) :: l) := by
  obtain ⟨_, ⟨v, i, rfl⟩, _, K⟩ := H.open1
  refine (Enc.Put_yes i ok small lo ow al may).mono ?_
  rintro en w' ⟨v', rfl, a, t⟩
  exact ⟨rfl, Enc.step_h (s := s) K a t⟩
theorem Enc.Bits_h {e : Nat} {s : Enc.St} (H : Hp W w (encA e s :: l)) (ok : s.Ready) (small : s.k ≤ 800000000) (n : Int) (wide : Nat) (h0 : 0 ≤ n) (h1 : n < 2 ^ wide) (h2 : wide ≤ 24) :
    Calls Try.prog 18 #[.pointer (some ⟨e, 0, none⟩), .int .u32 n, .int .i64 wide] w fun en w' => en = .returned (.int .i64 0) ∧ Hp W w' (encA e (bitsS s n wide) :: l) := by
  obtain ⟨_, ⟨v, i, rfl⟩, _, K⟩ := H.open1
  refine (Enc.Bits_yes i ok small n wide h0 h1 h2).mono ?_
  rintro en w' ⟨v', rfl, a, t⟩
  exact ⟨rfl, Enc.step_h (s := s) K a t⟩
theorem Enc.Symbol_h {e m : Nat} {s : Enc.St} {L : List Int} {f : Bool} (H : Hp W w (encA e s :: mdlA m L f :: l)) (ok : s.Ready) (small : s.k ≤ 900000000) (good : Mdl.Good L) (k : Nat) (hk : k < L.length) :
    Calls Try.prog 19 #[.pointer (some ⟨e, 0, none⟩), .pointer (some ⟨m, 0, none⟩), .int .i64 k] w fun en w' => en = .returned (.int .i64 0) ∧ Hp W w' (encA e (symS s L k) :: mdlA m (Mdl.next f L k) f :: l) := by
  obtain ⟨_, _, ⟨v, i, rfl⟩, ⟨h, cap, j, rfl⟩, g1, g2, ne, K⟩ := H.open2
  have n1 := ne m (.inl rfl)
  have n2 := ne h (.inr rfl)
  refine (Enc.Symbol_yes i ok small j good k hk (fun x => n1 (.inl x.symm)) (fun x => n2 (.inl x.symm)) (fun x => n1 (.inr x)) (fun x => n2 (.inr x))).mono ?_
  rintro en w' ⟨v', rfl, a, b, o, own⟩
  refine ⟨rfl, K (A1' := encA e _) (A2' := mdlA m _ f) o ⟨v', a, rfl⟩ ⟨h, cap, b, rfl⟩ (fun k hk => ?_) (fun k hk => .inl hk) (fun k hk e => ?_)⟩
  · rcases hk with hk | hk
    · exact .inl (.inl hk)
    · exact (own k hk).imp .inr id
  · rcases e with e | e
    · exact ne k hk (.inl e)
    · rcases own k e with h1 | h1
      · exact ne k hk (.inr h1)
      · have := (g2 k hk).2; omega
theorem Enc.RBits_h {e : Nat} {R : Enc.RSt} (H : Hp W w (rencA e R :: l)) (ok : RGood R) (small : R.K ≤ 800000000) (n : Int) (wide : Nat) (h0 : 0 ≤ n) (h1 : n < 2 ^ wide) (h2 : wide ≤ 24) :
    Calls Try.prog 28 #[.pointer (some ⟨e, 0, none⟩), .int .i64 n, .int .i64 wide] w fun en w' => en = .returned (.tuple #[]) ∧ Hp W w' (rencA e (rbitsS R n wide) :: l) := by
  obtain ⟨_, ⟨g, c, i, rfl⟩, _, K⟩ := H.open1
  refine (Enc.RBits_yes i ok small n wide h0 h1 h2).mono ?_
  rintro en w' ⟨g', c', rfl, a, t⟩
  exact ⟨rfl, K (A' := rencA e _) t.only ⟨g', c', a, rfl⟩ (fun k hk => by
    rcases hk with hk | hk
    · exact .inl (.inl hk)
    · subst hk
      exact t.own.imp .inr id)⟩
theorem Enc.RPut_h {e : Nat} {R : Enc.RSt} (H : Hp W w (rencA e R :: l)) (ok : RGood R) (small : R.K ≤ 900000000) (lo ow al : Int) (may : May lo ow al) :
    Calls Try.prog 30 #[.pointer (some ⟨e, 0, none⟩), .int .i64 lo, .int .i64 ow, .int .i64 al] w fun en w' => en = .returned (.tuple #[]) ∧ Hp W w' (rencA e (rputS R lo ow al) :: l) := by
  obtain ⟨_, ⟨g, c, i, rfl⟩, _, K⟩ := H.open1
  refine (Enc.RPut_yes i ok small lo ow al may).mono ?_
  rintro en w' ⟨g', c', rfl, a, t⟩
  exact ⟨rfl, K (A' := rencA e _) t.only ⟨g', c', a, rfl⟩ (fun k hk => by
    rcases hk with hk | hk
    · exact .inl (.inl hk)
    · subst hk
      exact t.own.imp .inr id)⟩
theorem Enc.RSymbol_h {e m : Nat} {R : Enc.RSt} {L : List Int} {f : Bool} (H : Hp W w (rencA e R :: rmdlA m L f :: l)) (ok : RGood R) (small : R.K ≤ 900000000) (good : Mdl.Good L) (k : Nat) (hk : k < L.length) :
    Calls Try.prog 27 #[.pointer (some ⟨e, 0, none⟩), .pointer (some ⟨m, 0, none⟩), .int .i64 k] w fun en w' => en = .returned (.tuple #[]) ∧ Hp W w' (rencA e (rsymS R L k) :: rmdlA m (Mdl.next f L k) f :: l) := by
  obtain ⟨_, _, ⟨ge, ce, i, rfl⟩, ⟨h, cap, j, rfl⟩, g1, g2, ne, K⟩ := H.open2
  have n1 := ne m (.inl rfl)
  have n2 := ne h (.inr rfl)
  refine (Enc.RSymbol_yes i ok small j good k hk (fun x => n1 (.inl x.symm)) (fun x => n2 (.inl x.symm)) (fun x => n1 (.inr x.symm)) (fun x => n2 (.inr x.symm))).mono ?_
  rintro en w' ⟨g', c', rfl, a, b, o, own⟩
  refine ⟨rfl, K (A1' := rencA e _) (A2' := rmdlA m _ f) o ⟨g', c', a, rfl⟩ ⟨h, cap, b, rfl⟩ (fun k hk => ?_) (fun k hk => .inl hk) (fun k hk e => ?_)⟩
  · rcases hk with hk | hk
    · exact .inl (.inl hk)
    · subst hk; exact own.imp .inr id
  · rcases e with e | e
    · exact ne k hk (.inl e)
    · rcases own with h1 | h1
      · exact ne k hk (.inr (e.trans h1))
      · have := (g2 k hk).2; omega
/-- An encoder's bytes. -/
theorem Enc.Bytes_h {e : Nat} {s : Enc.St} (H : Hp W w (encA e s :: l)) (ok : s.Ready) (small : s.k ≤ 800000000) :
    Calls Try.prog 21 #[.pointer (some ⟨e, 0, none⟩)] w fun en w' => ∃ v, en = .returned v ∧ Hp W w' (slA 5 .u8 v (bytesS s) :: encA e s :: l) := by
  obtain ⟨_, ⟨v, i, rfl⟩, _, _⟩ := H.open1
  refine (Enc.Bytes_some i ok small).mono ?_
  rintro en w' ⟨v', rfl, sl, ho, b⟩
  exact ⟨v', rfl, H.add_sl b sl ho⟩
theorem Enc.RBytes_h {e : Nat} {R : Enc.RSt} (H : Hp W w (rencA e R :: l)) (dig : ∀ x ∈ R.D, 0 ≤ x ∧ x ≤ 255) (small : R.D.length ≤ 900000000) :
    Calls Try.prog 31 #[.pointer (some ⟨e, 0, none⟩)] w fun en w' => ∃ v, en = .returned v ∧ Hp W w' (slA 5 .u8 v (strip R.D) :: rencA e R :: l) := by
  obtain ⟨_, ⟨g, c, i, rfl⟩, _, _⟩ := H.open1
  refine (Enc.RBytes_calls i dig small).mono ?_
  rintro en w' ⟨v', rfl, sl, ho, b⟩
  exact ⟨v', rfl, H.add_sl b sl ho⟩
theorem Enc.Len_h {e : Nat} {s : Enc.St} (H : Hp W w (encA e s :: l)) (he : 1 ≤ s.he) (small : s.k ≤ 900000000) :
    Calls Try.prog 20 #[.pointer (some ⟨e, 0, none⟩)] w fun en w' => en = .returned (.int .i64 ((s.k + 4 : Nat) : Int)) ∧ Hp W w' (encA e s :: l) := by
  obtain ⟨_, ⟨v, i, rfl⟩, _, _⟩ := H.open1
  refine (Enc.Len_some i he small).mono ?_
  rintro en w' ⟨rfl, b⟩
  exact ⟨rfl, H.keep b⟩
theorem Deco.New_h (H : Hp W w l) {u : Value} {bs : List Int} (src : Src w .u8 u bs) (hb : Byt bs) :
    Calls Try.prog 33 #[u] w fun en w' => ∃ d, en = .returned (.pointer (some ⟨d, 0, none⟩)) ∧ Hp W w' (pdecA d (openS bs) :: l) := by
  refine (Deco.New_calls src hb).mono ?_
  rintro en w' ⟨d, v, rfl, hd, ho, i, b⟩
  exact ⟨d, rfl, H.new b (A' := pdecA d _) ⟨v, i, rfl⟩ (fun k hk => by
    rcases hk with hk | hk
    · omega
    · exact ho k hk)⟩
theorem Deco.Open_h (H : Hp W w l) {u : Value} {bs : List Int} (src : Src w .u8 u bs) (hb : Byt bs) :
    Calls Try.prog 34 #[u] w fun en w' => ∃ d, en = .returned (.pointer (some ⟨d, 0, none⟩)) ∧ Hp W w' (ddecA d (openS bs) :: l) := by
  refine (Deco.Open_calls src hb).mono ?_
  rintro en w' ⟨d, v, rfl, hd, ho, i, b⟩
  exact ⟨d, rfl, H.new b (A' := ddecA d _) ⟨v, i, rfl⟩ (fun k hk => by
    rcases hk with hk | hk
    · omega
    · exact ho k hk)⟩
theorem Deco.Symbol_h {d m : Nat} {s : DSt} {L : List Int} {f : Bool} (H : Hp W w (pdecA d s :: mdlA m L f :: l)) (ok : s.Ready) (hn : s.n ≤ 900000000000) (good : Mdl.Good L) :
    Calls Try.prog 35 #[.pointer (some ⟨d, 0, none⟩), .pointer (some ⟨m, 0, none⟩)] w fun en w' => en = .returned (.tuple #[.int .i64 (symK s L), .int .i64 0]) ∧ Hp W w' (pdecA d (symS s L) :: mdlA m (Mdl.next f L (symK s L)) f :: l) := by
  obtain ⟨_, _, ⟨v, i, rfl⟩, ⟨h, cap, j, rfl⟩, g1, g2, ne, K⟩ := H.open2
  have n1 := ne m (.inl rfl)
  have n2 := ne h (.inr rfl)
  refine (Deco.Symbol_yes i ok hn j good (fun x => n1 (.inl x.symm)) (fun x => n2 (.inl x.symm)) (fun x => n1 (.inr x)) (fun x => n2 (.inr x))).mono ?_
  rintro en w' ⟨rfl, a, b, o⟩
  exact ⟨rfl, K (A1' := pdecA d _) (A2' := mdlA m _ f) (o.mono fun k hk => hk.imp .inl id) ⟨v, a, rfl⟩ ⟨h, cap, b, rfl⟩ (fun k hk => .inl hk) (fun k hk => .inl hk) ne⟩
theorem Deco.RSymbol_h {d m : Nat} {s : DSt} {L : List Int} {f : Bool} (H : Hp W w (ddecA d s :: rmdlA m L f :: l)) (ok : s.Ready) (hn : s.n ≤ 900000000000) (good : Mdl.Good L) :
    Calls Try.prog 36 #[.pointer (some ⟨d, 0, none⟩), .pointer (some ⟨m, 0, none⟩)] w fun en w' => en = .returned (.int .i64 (symK s L)) ∧ Hp W w' (ddecA d (symS s L) :: rmdlA m (Mdl.next f L (symK s L)) f :: l) := by
  obtain ⟨_, _, ⟨v, i, rfl⟩, ⟨h, cap, j, rfl⟩, g1, g2, ne, K⟩ := H.open2
  have n1 := ne m (.inl rfl)
  have n2 := ne h (.inr rfl)
  refine (Deco.RSymbol_yes i ok hn j good (fun x => n1 (.inl x.symm)) (fun x => n2 (.inl x.symm)) (fun x => n1 (.inr x)) (fun x => n2 (.inr x))).mono ?_
  rintro en w' ⟨rfl, a, b, o⟩
  exact ⟨rfl, K (A1' := ddecA d _) (A2' := rmdlA m _ f) (o.mono fun k hk => hk.imp .inl id) ⟨v, a, rfl⟩ ⟨h, cap, b, rfl⟩ (fun k hk => .inl hk) (fun k hk => .inl hk) ne⟩
theorem Deco.Bits_h {d : Nat} {s : DSt} (H : Hp W w (pdecA d s :: l)) (ok : s.Ready) (hn : s.n ≤ 800000000000) (wide : Nat) (h2 : wide ≤ 24) :
    Calls Try.prog 37 #[.pointer (some ⟨d, 0, none⟩), .int .i64 wide] w fun en w' => en = .returned (.tuple #[.int .u32 (bitsD s 0 wide).1, .int .i64 0]) ∧ Hp W w' (pdecA d (bitsD s 0 wide).2 :: l) := by
  obtain ⟨_, ⟨v, i, rfl⟩, _, K⟩ := H.open1
  refine (Deco.Bits_yes i ok hn wide h2).mono ?_
  rintro en w' ⟨rfl, a, o⟩
  exact ⟨rfl, K (A' := pdecA d _) (o.mono fun k hk => .inl hk) ⟨v, a, rfl⟩ (fun k hk => .inl hk)⟩
theorem Deco.RBits_h {d : Nat} {s : DSt} (H : Hp W w (ddecA d s :: l)) (ok : s.Ready) (hn : s.n ≤ 800000000000) (wide : Nat) (h2 : wide ≤ 24) :
    Calls Try.prog 38 #[.pointer (some ⟨d, 0, none⟩), .int .i64 wide] w fun en w' => en = .returned (.int .i64 (bitsD s 0 wide).1) ∧ Hp W w' (ddecA d (bitsD s 0 wide).2 :: l) := by
  obtain ⟨_, ⟨v, i, rfl⟩, _, K⟩ := H.open1
  refine (Deco.RBits_yes i ok hn wide h2).mono ?_
  rintro en w' ⟨rfl, a, o⟩
  exact ⟨rfl, K (A' := ddecA d _) (o.mono fun k hk => .inl hk) ⟨v, a, rfl⟩ (fun k hk => .inl hk)⟩
end
end Go.Proofs.Ytlbjoflmfboeeaa

/-
  Words: slices of numbers that come in as arguments. Plain theorems; no condition.
-/
set_option linter.unusedVariables false
namespace Go.Proofs.Ytlbjoflmfboeeaa
open Go.RowKit

/-- A slice of numbers as it comes in: cap cells, of which the first len are told. -/
def IsRow (k : IntKind) (w : World) (a : Option Addr) (len cap : Nat) (zs : List Int) : Prop :=
  (a = none ∧ len = 0 ∧ cap = 0 ∧ zs = []) ∨
  ∃ x, a = some x ∧ len ≤ cap ∧ cap ≤ maxLen ∧ zs.length = cap ∧ (∀ i, i < zs.length → w.cell? (x.add i) = some (.int k (zs.getD i 0))) ∧ ∀ n ∈ zs, (Lit.int k n).wf = true
theorem IsRow.take_len {k : IntKind} {w : World} {a : Option Addr} {len cap : Nat} {zs : List Int} (h : IsRow k w a len cap zs) : (zs.take len).length = len := by
  rw [List.length_take]
  rcases h with ⟨_, rfl, _, rfl⟩ | ⟨x, _, h1, _, h2, _⟩
  · rfl
  · omega
theorem IsRow.src {k : IntKind} {w : World} {a : Option Addr} {len cap : Nat} {zs : List Int} (h : IsRow k w a len cap zs) : Src w k (.slice a len cap) (zs.take len) := by
  have hl := h.take_len
  rcases h with ⟨rfl, rfl, rfl, rfl⟩ | ⟨x, rfl, h1, _, h2, h3, _⟩
  · exact ⟨none, 0, rfl, fun h => by simp at h⟩
  · refine ⟨some x, cap, by rw [hl], fun _ => ⟨x, rfl, fun j hj => ?_⟩⟩
    rw [h3 j (by omega)]
    congr 2
    rw [List.getElem_take, List.getD_eq_getElem?_getD, List.getElem?_eq_getElem (by omega)]; rfl
theorem IsRow.wf {k : IntKind} {w : World} {a : Option Addr} {len cap : Nat} {zs : List Int} (h : IsRow k w a len cap zs) : ∀ n ∈ zs.take len, (Lit.int k n).wf = true := by
  intro n hn
  have hn := List.mem_of_mem_take hn
  rcases h with ⟨_, _, _, rfl⟩ | ⟨x, _, _, _, _, _, h⟩
  · cases hn
  · exact h n hn
theorem wf_u8 {n : Int} (h : (Lit.int .u8 n).wf = true) : 0 ≤ n ∧ n ≤ 255 := by
  simp only [Lit.wf, Bool.and_eq_true, decide_eq_true_eq] at h
  have e1 : IntKind.min .u8 = 0 := by decide
  have e2 : IntKind.max .u8 = 255 := by decide
  rw [e1, e2] at h
  exact h
/-- What lies at the j-th place of a slice that came in. -/
theorem Src.cell {w : World} {k : IntKind} {A : Option Addr} {n c : Nat} {ys : List Int} (h : Src w k (.slice A n c) ys) {j : Nat} (hj : j < ys.length) : ∃ ad, A = some ad ∧ w.cell? (ad.add j) = some (.int k ys[j]) := by
  obtain ⟨A', c', e, h⟩ := h
  injection e with e1 e2 e3
  subst e1
  obtain ⟨ad, e4, h⟩ := h (by omega)
  exact ⟨ad, e4, h j hj⟩
end Go.Proofs.Ytlbjoflmfboeeaa

/-
  Words: slices that are read while objects are turned. Plain theorems; no condition.
-/
set_option linter.unusedVariables false
namespace Go.Proofs.Ytlbjoflmfboeeaa
open Go.RowKit

/-- u holds these numbers as long as these objects are as they are. -/
def Rd (W : World) (L : List Ast) (k : IntKind) (u : Value) (ys : List Int) : Prop := ∀ w, Hp W w L → Src w k u ys
section
variable {W w : World} {L : List Ast} {k : IntKind} {u v : Value} {ys xs : List Int} {t : TypeId} {g cap : Nat}
theorem Rd.arg (h : Src W k u ys) : Rd W L k u ys := fun w H => Src.below h H.b
theorem Rd.row : Rd W (rowA t k g cap xs :: L) k (.slice (some ⟨g, 0, none⟩) xs.length cap) xs := fun w H => Src.of_sl (Sl.row H.row)
theorem Rd.rown {n : Nat} (hn : xs.length = n) : Rd W (rowA t k g cap xs :: L) k (.slice (some ⟨g, 0, none⟩) n cap) xs := by subst hn; exact Rd.row
theorem Rd.sl : Rd W (slA t k v xs :: L) k v xs := fun w H => Src.of_sl H.sl
theorem Rd.nil : Rd W L k (.slice none 0 0) [] := fun w H => ⟨none, 0, rfl, fun h => by simp at h⟩
theorem Rd.pk (is : List Nat) (h : Rd W (pick is L) k u ys) : Rd W L k u ys := fun w H => h w (H.pk is)
theorem Rd.tail {A : Ast} (h : Rd W L k u ys) : Rd W (A :: L) k u ys := fun w H => h w H.drop
theorem Rd.cell {ad : Addr} {n c j : Nat} (r : Rd W L k (.slice (some ad) n c) ys) (hj : j < ys.length) (w : World) (h : Hp W w L) : w.cell? (ad.add j) = some (.int k ys[j]) := by
  obtain ⟨a, e, d⟩ := (r w h).cell hj
  cases e
  exact d
theorem Src.form (h : Src w k u ys) : ∃ A c, u = .slice A ys.length c := by obtain ⟨A, c, e, _⟩ := h; exact ⟨A, c, e⟩
end
end Go.Proofs.Ytlbjoflmfboeeaa

/-
  Words: regions that draw their order, under a condition that is sharpened on the way. Plain theorems; no condition.
-/
set_option linter.unusedVariables false
namespace Go.Proofs.Ytlbjoflmfboeeaa
open Go.RowKit

theorem wpAnyH_imp {P : Program} {md : Region.Mode} {ops : Array Oper} {Q : Exit → Act → World → Prop} {S S' : World → Prop} (hs : ∀ w, S w → S' w) :
    ∀ (fuel : Nat) (listed : Array Bool) (a : Act) (w : World), wpAnyH P md ops Q S fuel listed a w → wpAnyH P md ops Q S' fuel listed a w
  | 0, _, _, _, h => h
  | fuel + 1, _, _, _, h => ⟨h.1, fun i hi => wpOp_mono (fun a' w' h' => ⟨hs _ h'.1, wpAnyH_imp hs fuel _ a' w' h'.2⟩) (h.2 i hi)⟩
end Go.Proofs.Ytlbjoflmfboeeaa

/-
  Law 6: contracts of the encoder for whatever comes; no condition.
-/
set_option linter.unusedVariables false
set_option linter.unusedSimpArgs false
namespace Go.Proofs.Ytlbjoflmfboeeaa.Enc
open Go.RowKit Go.Proofs.Ytlbjoflmfboeeaa Go.Proofs.YtlbjoflmfboeeaaW.PrintWords Go.Proofs.Ytlbjoflmfboeeaa.Dig

theorem nx_fixed (L : List Int) (k : Nat) : Mdl.next true L k = L := by unfold Mdl.next; rw [if_pos rfl]
theorem _root_.Go.Proofs.Ytlbjoflmfboeeaa.Hp.rK {W w : World} {l : List Ast} {f : Nat} {R : RSt} (H : Hp W w (rencA f R :: l)) : w.cell? ⟨f, 2, none⟩ = some (.int .i64 R.K) := by
  obtain ⟨_, ⟨g, c, i, rfl⟩, _, _⟩ := H.open1
  exact i.blk.cell (i := 2) rfl
/-- The answers' numbers. -/
def cd (b : Bool) : Int := if b then 0 else 1
theorem SymA {W w : World} {l : List Ast} {e m : Nat} {s : St} {L : List Int} {f : Bool} (H : Hp W w (encA e s :: mdlA m L f :: l)) (ok : s.Ready) (small : s.k ≤ 900000000) (good : Mdl.Good L) (k : Nat) :
    Calls Try.prog 19 #[.pointer (some ⟨e, 0, none⟩), .pointer (some ⟨m, 0, none⟩), .int .i64 k] w fun en w' => en = .returned (.int .i64 (cd (decide (k < L.length)))) ∧
      Hp W w' (encA e (if k < L.length then symS s L k else s) :: mdlA m (if k < L.length then Mdl.next f L k else L) f :: l) := by
  by_cases hk : k < L.length
  · rw [if_pos hk, if_pos hk, decide_eq_true hk]
    exact Symbol_h H ok small good k hk
  · rw [if_neg hk, if_neg hk, decide_eq_false hk]
    obtain ⟨_, _, ⟨v, i, rfl⟩, ⟨h, cap, j, rfl⟩, _⟩ := H.open2
    refine (Symbol_bad j (k : Int) (.inr (by omega))).mono ?_
    rintro en w' ⟨rfl, b⟩
    exact ⟨rfl, H.keep b⟩
theorem BitsA {W w : World} {l : List Ast} {e : Nat} {s : St} (H : Hp W w (encA e s :: l)) (ok : s.Ready) (small : s.k ≤ 800000000) (n wide : Int) (h0 : 0 ≤ n) (q : Bool) (hq : q = true ↔ (0 ≤ wide ∧ wide ≤ 24 ∧ n < 2 ^ wide.toNat)) :
    Calls Try.prog 18 #[.pointer (some ⟨e, 0, none⟩), .int .u32 n, .int .i64 wide] w fun en w' => en = .returned (.int .i64 (cd q)) ∧ Hp W w' (encA e (if q then bitsS s n wide.toNat else s) :: l) := by
  cases q with
  | true =>
    obtain ⟨h1, h2, h3⟩ := hq.1 rfl
    have := Bits_h H ok small n wide.toNat h0 h3 (by omega)
    rw [show ((wide.toNat : Nat) : Int) = wide by omega] at this
    exact this
  | false =>
    refine (Bits_bad e n wide h0 ?_ w).mono ?_
    · by_cases h1 : wide < 0
      · exact .inl h1
      · by_cases h2 : 24 < wide
        · exact .inr (.inl h2)
        · refine .inr (.inr (Int.not_lt.1 fun h3 => ?_))
          have := hq.2 ⟨by omega, by omega, h3⟩
          cases this
    · rintro en w' ⟨rfl, rfl⟩
      exact ⟨rfl, H⟩
theorem PutA {W w : World} {l : List Ast} {e : Nat} {s : St} (H : Hp W w (encA e s :: l)) (ok : s.Ready) (small : s.k ≤ 900000000) (lo ow al : Int) (l0 : 0 ≤ lo) (o0 : 0 ≤ ow) (a0 : 0 ≤ al) (a1 : al < 4294967296) (q : Bool) (hq : q = true ↔ May lo ow al) :
    Calls Try.prog 17 #[.pointer (some ⟨e, 0, none⟩), Mdl.part lo ow al] w fun en w' => en = .returned (.int .i64 (cd q)) ∧ Hp W w' (encA e (if q then putS s lo ow al else s) :: l) := by
  cases q with
  | true => exact Put_h H ok small lo ow al (hq.1 rfl)
  | false =>
    refine (Put_bad e lo ow al (fun h => by have := hq.2 h; cases this) l0 o0 a0 a1 w).mono ?_
    rintro en w' ⟨rfl, b⟩
    exact ⟨rfl, H.keep b⟩
theorem may_calls (lo ow al : Int) (l0 : 0 ≤ lo) (l1 : lo < 4294967296) (o0 : 0 ≤ ow) (o1 : ow < 4294967296) (a0 : 0 ≤ al) (a1 : al < 4294967296) (q : Bool) (hq : q = true ↔ May lo ow al) (w : World) :
    Calls Try.prog 29 #[Mdl.part lo ow al] w fun e w' => e = .returned (.bool q) ∧ Below w.heap.size w w' := by
  unfold Mdl.part
  have hb : Below w.heap.size w (w.alloc (.cells #[.int .u32 lo, .int .u32 ow, .int .u32 al] 31)) := (Below.refl _ _).alloc (Nat.le_refl _) _
  have HB := Lib.hid hb
  clear hb
  have HQ := Lib.hid hq
  clear hq
  have no : ¬ May lo ow al → q = false := fun h => by cases q with | false => rfl | true => exact absurd (HQ.out.1 rfl) h
  have NO := Lib.hid no
  clear no
  by_cases h1 : al < 1
  · obtain rfl := NO.out (fun h => by unfold May at h; omega)
    clear HQ NO
    go_enter Try.func29, Try.ntmps29
    go_wp2
    go_ret
    exact ⟨rfl, HB.out⟩
  by_cases h2 : 8192 < al
  · obtain rfl := NO.out (fun h => by unfold May at h; omega)
    clear HQ NO
    go_enter Try.func29, Try.ntmps29
    go_wp2
    go_ret
    exact ⟨rfl, HB.out⟩
  by_cases h3 : ow < 1
  · obtain rfl := NO.out (fun h => by unfold May at h; omega)
    clear HQ NO
    go_enter Try.func29, Try.ntmps29
    go_wp2
    go_ret
    exact ⟨rfl, HB.out⟩
  by_cases h4 : al < lo + ow
  · have k4 : decide (lo + ow ≤ al) = false := decide_eq_false (by omega)
    obtain rfl := NO.out (fun h => by unfold May at h; omega)
    clear HQ NO
    go_enter Try.func29, Try.ntmps29
    go_wp2
    go_ret
    exact ⟨rfl, HB.out⟩
  have hy : q = true := HQ.out.2 (by unfold May; omega)
  subst hy
  have k4 : decide (lo + ow ≤ al) = true := decide_eq_true (by omega)
  clear HQ NO
  go_enter Try.func29, Try.ntmps29
  go_wp2
  go_ret
  exact ⟨rfl, HB.out⟩
end Go.Proofs.Ytlbjoflmfboeeaa.Enc
