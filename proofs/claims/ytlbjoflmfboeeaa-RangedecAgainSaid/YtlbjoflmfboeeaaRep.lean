/-
  The walk of the document's Put; no condition but those told.
-/
import Derived.Test.YtlbjoflmfboeeaaRen
set_option linter.unusedVariables false
set_option linter.unusedSimpArgs false
namespace Go.Proofs.Ytlbjoflmfboeeaa.Enc
open Go.RowKit Go.Proofs.Ytlbjoflmfboeeaa Go.Proofs.YtlbjoflmfboeeaaW.PrintWords Go.Proofs.Ytlbjoflmfboeeaa.Dig

theorem wrapN {x : Int} (n : Nat) (h : x = n) (hn : n < 9223372036854775808) : IntKind.i64.wrap x = (n : Int) := by rw [h]; exact wrapI64 (by omega) (by omega)
theorem addF_step (n : Nat) (D : List Int) (K : Nat) (a : Int) : addF (n + 1) D K a = addF n (D.set (K + n) (D.getD (K + n) 0 + a % 256)) K (a / 256) := rfl
theorem addF_none (D : List Int) (K : Nat) (a : Int) : addF 0 D K a = D := rfl
theorem carF_none (D : List Int) (K : Nat) : carF 0 D K = D := rfl
theorem carF_stop (i : Nat) (D : List Int) (K : Nat) (h : ¬ (K ≤ i + 1 ∨ 255 < D.getD (i + 1) 0)) : carF (i + 1) D K = D := by unfold carF; rw [if_neg h]
theorem carF_over (i : Nat) (D : List Int) (K : Nat) (h : 255 < D.getD (i + 1) 0) : carF (i + 1) D K = carF i ((D.set (i + 1) (D.getD (i + 1) 0 - 256)).set i (D.getD i 0 + 1)) K := by
  rw [carF, if_pos (.inr h), if_pos h]
theorem carF_on (i : Nat) (D : List Int) (K : Nat) (h : ¬ 255 < D.getD (i + 1) 0) (hk : K ≤ i + 1) : carF (i + 1) D K = carF i D K := by
  rw [carF, if_pos (.inl hk), if_neg h]
attribute [local irreducible] addF carF
set_option maxHeartbeats 4000000 in
set_option maxRecDepth 100000 in
theorem RPut_yes {w : World} {m : Nat} {R : RSt} {g cap : Nat} (a : RIs w m R g cap) (ok : RGood R) (small : R.K ≤ 900000000) (lo ow al : Int) (may : May lo ow al) :
    Calls Try.prog 30 #[.pointer (some ⟨m, 0, none⟩), .int .i64 lo, .int .i64 ow, .int .i64 al] w fun e w' => ∃ g' cap', e = .returned (.tuple #[]) ∧ RIs w' m (rputS R lo ow al) g' cap' ∧ RStep m g g' w w' := by
  have HM := Lib.hid (mid_of ok (R.S / al * lo))
  have OK := Lib.hid ok
  have A := Lib.hid a
  obtain ⟨p0, p1, p2, p3⟩ := may
  obtain ⟨each, hE⟩ : ∃ each, each = R.S / al := ⟨_, rfl⟩
  obtain ⟨q, hq⟩ : ∃ q, q = each * lo := ⟨_, rfl⟩
  obtain ⟨r, hr⟩ : ∃ r, r = each * ow := ⟨_, rfl⟩
  have b1 := mul_bd each lo al R.S hE (by omega) p0 (by omega) (by have := ok.s0; omega)
  have b2 := mul_bd each ow al R.S hE (by omega) (by omega) (by omega) (by have := ok.s0; omega)
  have b3 := each_lo al R.S (by omega) p3 ok.s0
  have b4 : each * 1 ≤ each * ow := Int.mul_le_mul_of_nonneg_left p1 (by rw [hE]; omega)
  rw [Int.mul_one] at b4
  rw [← hE] at b3
  rw [← hq] at b1
  rw [← hr] at b2 b4
  have HPut : Hid (rputS R lo ow al = rnorm 2 ⟨carF (R.K + 3) (addF 4 R.D R.K q) R.K, r, R.K⟩) := Lib.hid (by unfold rputS; rw [hq, hr, hE])
  rw [← hE, ← hq] at HM
  have e1 : Int.tdiv R.S al = each := by rw [hE, Int.tdiv_eq_ediv_of_nonneg (by have := ok.s0; omega)]
  have e1' : R.S / al = each := hE.symm
  have e2 : each * lo = q := hq.symm
  have e3 : each * ow = r := hr.symm
  have s0 := ok.s0
  have s1 := ok.s1
  have d0 := a.blk.cell (i := 0) rfl
  have d1 := a.blk.cell (i := 1) rfl
  have d2 := a.blk.cell (i := 2) rfl
  have hlen := ok.len
  have hne := a.ne
  have z1 : al ≠ 0 := by omega
  have z2 : (al == 0) = false := by rw [beq_eq_false_iff_ne]; omega
  have b5 : each ≤ R.S := by rw [hE]; exact Int.ediv_le_self _ (by omega)
  obtain ⟨len, hle⟩ : ∃ len, len = R.K + 4 := ⟨_, rfl⟩
  rw [← hle] at hlen
  rw [hlen] at d0
  have HL := Lib.hid hlen
  obtain ⟨D, S, K⟩ := R
  simp only at *
  clear hE hq hr a ok hlen
  have HLe := Lib.hid hle
  have hle1 : K + 4 ≤ len := by omega
  have hle2 : len ≤ K + 4 := by omega
  clear hle
  go_enter Try.func30, Try.ntmps30
  go_wp2
  clear e1 e1' e2 d0 d1 d2
  go_loopw [9, 10] (fun va vi wr => ∃ (n : Nat) (E : List Int) (x z : Int), n ≤ 4 ∧ vi = .int .i64 z ∧ z + 1 = (n : Int) ∧ va = .int .i64 x ∧ 0 ≤ x ∧ x < 4294967296 ∧ Hid (addF n E K x = addF 4 D K q) ∧ Hid (E.length = len) ∧ Hid (Adds E K n) ∧ Hid (RIs wr m ⟨E, S, K⟩ g cap) ∧ Hid (RStep m g g w wr)) (fun _ vi _ => (intOf vi + 1).toNat)
  case atStart => exact ⟨4, D, q, 3, by omega, rfl, rfl, rfl, by omega, by omega, rfl, HL, adds_of OK.out.dig _ _, A, RStep.refl m g w⟩
  case round =>
    clear A
    obtain ⟨n, E, x, z, hn, rfl, hz1, rfl, hx0, hx1, HA, HE, HAd, A, S0⟩ := hrel
    have d0 := A.out.blk.cell (i := 0) rfl
    have d2 := A.out.blk.cell (i := 2) rfl
    have f2 := A.out.blk.free 2
    simp only at d0 d2
    rw [HE.out] at d0
    by_cases hz : 0 < n
    · obtain ⟨i, rfl⟩ : ∃ i, n = i + 1 := ⟨n - 1, by omega⟩
      obtain rfl : z = (i : Int) := by omega
      clear hz1
      obtain ⟨ix, hix⟩ : ∃ ix, ix = K + i := ⟨_, rfl⟩
      have e5 : IntKind.i64.wrap ((K : Int) + (i : Int)) = (ix : Int) := wrapN ix (by omega) (by omega)
      have hixl : ix < E.length := by rw [HE.out]; omega
      have c1 := A.out.row.cell hixl
      have f1 := A.out.row.free ix
      have ixb : (ix : Int) < (len : Int) := by omega
      have hy0 := HAd.out.low _ (List.getElem_mem hixl)
      have hy1 := HAd.out.top _ (List.getElem_mem hixl)
      have hgd := getD_get E ix hixl
      generalize E[ix]'hixl = y at *
      have e6 : Int.tmod x 256 = x % 256 := Int.tmod_eq_emod_of_nonneg hx0
      have e7 : IntKind.i64.wrap (x % 256) = x % 256 := wrapI64 (by omega) (by omega)
      have e8 : IntKind.i64.wrap (y + x % 256) = y + x % 256 := wrapI64 (by omega) (by omega)
      have HSt := Lib.hid (addF_step i E K x)
      have HAn := Lib.hid (HAd.out.step (by rw [HE.out]; omega) x)
      rw [← hix] at HSt HAn
      rw [hgd] at HSt HAn
      have HIX := Lib.hid hix
      clear hix hgd hixl
      go_wp2
      go_still_tail 26, (by kernel_rfl)
      go_wp2
      go_roundw
      case rel => exact ⟨i, E.set ix (y + x % 256), x / 256, (i : Int) - 1, by omega, rfl, by omega, rfl, by omega, by omega, HSt.out.symm.trans HA.out, by show _ = _; rw [List.length_set]; exact HE.out, HAn.out, ⟨by rw [List.length_set]; exact (A.out.blk.other (a := ⟨g, ix, none⟩) hne _).drew, (A.out.row.set ix _).drew, hne⟩, (S0.out.setg ix _).drew⟩
      case measure => simp [intOf]
    · obtain rfl : n = 0 := by omega
      obtain rfl : z = -1 := by omega
      have HA0 : Hid (E = addF 4 D K q) := Lib.hid ((addF_none E K x).symm.trans HA.out)
      rw [← HA0.out] at HPut HM
      clear hz1 HA HAd
      go_upto_block 2 with (fail)
      go_cut [] (fun wc => Hid (RIs wc m ⟨carF (K + 3) E K, S, K⟩ g cap) ∧ Hid (RStep m g g w wc))
      case first =>
        go_wp2
        go_loopw [11] (fun vi wr => ∃ (i : Nat) (F : List Int), i ≤ K + 3 ∧ vi = .int .i64 (i : Int) ∧ Hid (carF i F K = carF (K + 3) E K) ∧ Hid (F.length = len) ∧ Hid (Mid F K i) ∧ Hid (RIs wr m ⟨F, S, K⟩ g cap) ∧ Hid (RStep m g g w wr)) (fun vi _ => (intOf vi).toNat)
        case atStart => exact ⟨K + 3, E, Nat.le_refl _, by go_num, rfl, HE, HM, A, S0⟩
        case round =>
          clear A S0 d0 d2 f2 HM HE
          obtain ⟨i, F, hi, rfl, HC, HF, HMi, A, S0⟩ := hrel
          have d0 := A.out.blk.cell (i := 0) rfl
          have d1 := A.out.blk.cell (i := 1) rfl
          have d2 := A.out.blk.cell (i := 2) rfl
          have f1 := A.out.blk.free 1
          simp only at d0 d1 d2
          rw [HF.out] at d0
          by_cases h0 : 0 < i
          · obtain ⟨j, hj⟩ : ∃ j, i = j + 1 := ⟨i - 1, by omega⟩
            have il : i < F.length := by rw [HF.out]; omega
            have jl : j < F.length := by rw [HF.out]; omega
            have c1 := A.out.row.cell il
            have g1 := A.out.row.free i
            have gd1 := getD_get F i il
            have ib : (i : Int) < (len : Int) := by omega
            have jb : (j : Int) < (len : Int) := by omega
            have y0 := HMi.out.low _ (List.getElem_mem il)
            have y1 := HMi.out.at_ il
            have x0 := HMi.out.low _ (List.getElem_mem jl)
            have x1 := HMi.out.lt j jl (by omega)
            have gd2 := getD_get F j jl
            generalize F[i]'il = y at *
            by_cases hy : 255 < y
            · have HCo := Lib.hid (carF_over j F K (by rw [← hj, gd1]; exact hy))
              have HMn : Hid (Mid ((F.set i (y - 256)).set j (F.getD j 0 + 1)) K j) := by
                have := Mid.step (i := j) (by rw [← hj]; exact HMi.out) (by omega) (by rw [← hj, gd1]; exact hy)
                rw [← hj, gd1] at this
                exact this
              rw [← hj, gd1, gd2] at HCo
              rw [gd2] at HMn
              have CJ : Hid ((wr.setCell ⟨g, i, none⟩ (.int .i64 (y - 256))).drew.cell? ⟨g, j, none⟩ = some (.int .i64 (F[j]'jl))) := by
                have h1 := ((A.out.row.set i (y - 256)).drew).cell (i := j) (by rw [List.length_set]; exact jl)
                rw [List.getElem_set_ne (by omega)] at h1
                exact h1
              have cj := A.out.row.cell jl
              generalize F[j]'jl = x2 at *
              have e4 : IntKind.i64.wrap (y - 256) = y - 256 := wrapI64 (by omega) (by omega)
              have e5 : IntKind.i64.wrap (x2 + 1) = x2 + 1 := wrapI64 (by omega) (by omega)
              have e6 : IntKind.i64.wrap ((i : Int) - 1) = (j : Int) := wrapN j (by omega) (by omega)
              have A2 : Hid (RowI (wr.setCell ⟨g, i, none⟩ (.int .i64 (y - 256))).drew 3 .i64 g cap (F.set i (y - 256))) := Lib.hid (A.out.row.set i (y - 256)).drew
              have B2 : Hid (Blk (wr.setCell ⟨g, i, none⟩ (.int .i64 (y - 256))).drew m 56 #[.slice (some ⟨g, 0, none⟩) F.length cap, .int .i64 S, .int .i64 K]) := Lib.hid (A.out.blk.other (a := ⟨g, i, none⟩) hne (.int .i64 (y - 256))).drew
              have S2 := Lib.hid (S0.out.setg i (.int .i64 (y - 256))).drew
              have HJ := Lib.hid hj
              clear gd1 gd2 hj
              by_cases hk : K ≤ i
              all_goals
                go_wp2
                go_still_tail 14, (by kernel_rfl)
                go_wp2
                clear d0 d1 d2 c1 g1 cj f1 A S0
                generalize (wr.setCell ⟨g, i, none⟩ (.int .i64 (y - 256))).drew = w2 at *
                have d0 := B2.out.cell (i := 0) rfl
                have cj := CJ.out
                have gj := A2.out.free j
                rw [HF.out] at d0
                go_still_tail 16, (by kernel_rfl)
                go_wp2
                go_roundw
                case rel =>
                  exact ⟨j, (F.set i (y - 256)).set j (x2 + 1), by have := HJ.out; omega, rfl, HCo.out.symm.trans HC.out, by show _ = _; rw [List.length_set, List.length_set]; exact HF.out, HMn, ⟨by rw [List.length_set, List.length_set]; exact (B2.out.other (a := ⟨g, j, none⟩) hne _).drew, (A2.out.set j _).drew, hne⟩, (S2.out.setg j _).drew⟩
                case measure => simp [intOf]; have := HJ.out; omega
            · by_cases hk : K ≤ i
              · have HCo := Lib.hid (carF_on j F K (by rw [← hj, gd1]; exact hy) (by omega))
                have HMn : Hid (Mid F K j) := Lib.hid (Mid.skip (i := j) (by rw [← hj]; exact HMi.out) (by omega) (by rw [← hj, gd1]; exact hy))
                rw [← hj] at HCo
                have e6 : IntKind.i64.wrap ((i : Int) - 1) = (j : Int) := wrapN j (by omega) (by omega)
                have HJ := Lib.hid hj
                have e7 : (i : Int) - 1 = (j : Int) := by omega
                clear gd1 gd2 hj
                go_wp2
                go_roundw
                case rel => exact ⟨j, F, by have := HJ.out; omega, rfl, HCo.out.symm.trans HC.out, HF, HMn, A, S0⟩
                case measure => simp [intOf]; have := HJ.out; omega
              · have HCo := Lib.hid (carF_stop j F K (by rw [← hj, gd1]; omega))
                rw [← hj] at HCo
                have HFin : Hid (F = carF (K + 3) E K) := Lib.hid (HCo.out.symm.trans HC.out)
                clear gd1 gd2 hj HC HCo HMi
                go_wp2
                go_meet
                rw [← HFin.out]
                exact ⟨A, S0⟩
          · obtain rfl : i = 0 := by omega
            have HFin : Hid (F = carF (K + 3) E K) := Lib.hid ((carF_none F K).symm.trans HC.out)
            clear HC HMi
            go_wp2
            go_meet
            rw [← HFin.out]
            exact ⟨A, S0⟩
      case rest =>
        clear A S0 d0 d2 f2 HM
        obtain ⟨A, S0⟩ := hcut
        have HCl : Hid ((carF (K + 3) E K).length = len) := Lib.hid (by rw [carF_len]; exact HE.out)
        generalize carF (K + 3) E K = F at *
        clear HE
        have f1 := A.out.blk.free 1
        have d1 := A.out.blk.cell (i := 1) rfl
        have A1 : Hid (RIs (wc.setCell ⟨m, 1, none⟩ (.int .i64 r)) m ⟨F, r, K⟩ g cap) := Lib.hid ⟨A.out.blk.set 1 _, A.out.row.other (a := ⟨m, 1, none⟩) (Ne.symm hne) _, hne⟩
        have S1 := Lib.hid (S0.out.setm 1 (.int .i64 r))
        go_wp2
        clear A S0 d1 f1
        go_loopg [] 2 (fun j wr => ∃ (T : RSt) (g' cap' : Nat), j ≤ 2 ∧ lw j ≤ T.S ∧ T.S < 4294967296 ∧ T.K + j ≤ 900000002 ∧ Hid (rnorm j T = rputS ⟨D, S, K⟩ lo ow al) ∧ Hid (T.D.length = T.K + 4) ∧ Hid (RIs wr m T g' cap') ∧ Hid (RStep m g g' w wr))
        case atStart => exact ⟨⟨F, r, K⟩, g, cap, Nat.le_refl _, by show (256 : Int) ≤ r; omega, by simp only; omega, by simp only; omega, HPut.out.symm, by show F.length = K + 4; rw [HCl.out]; omega, A1, S1⟩
        case round =>
          clear A1 S1 HPut HCl
          obtain ⟨T, g', cap', hj2, hlw, hS1, hTK, HN, HTl, A, S0⟩ := hrel
          have d0 := A.out.blk.cell (i := 0) rfl
          have d1 := A.out.blk.cell (i := 1) rfl
          have d2 := A.out.blk.cell (i := 2) rfl
          have f0 := A.out.blk.free 0
          have f1 := A.out.blk.free 1
          have f2 := A.out.blk.free 2
          have hml := A.out.blk.lt
          have hne2 := A.out.ne
          rw [HTl.out] at d0
          by_cases hc : T.S < 16777216
          · have hg : 0 < gk := by
              rcases Nat.eq_zero_or_pos gk with h | h
              · subst h; have : (16777216 : Int) ≤ T.S := hlw; omega
              · exact h
            obtain ⟨j, rfl⟩ : ∃ j, gk = j + 1 := ⟨gk - 1, by omega⟩
            have HSt : Hid (rnorm (j + 1) T = rnorm j (rstep T)) := Lib.hid (by show (if T.S < 16777216 then rnorm j (rstep T) else T) = _; rw [if_pos hc])
            have hlw2 : lw j ≤ T.S * 256 := by
              rcases (show j = 0 ∨ j = 1 by omega) with h | h
              · subst h; have : (65536 : Int) ≤ T.S := hlw; show (16777216 : Int) ≤ _; omega
              · subst h; have : (256 : Int) ≤ T.S := hlw; show (65536 : Int) ≤ _; omega
            have hT0 : 0 ≤ T.S := by
              rcases (show j = 0 ∨ j = 1 by omega) with h | h
              · subst h; have : (65536 : Int) ≤ T.S := hlw; omega
              · subst h; have : (256 : Int) ≤ T.S := hlw; omega
            obtain ⟨TD, TS, TK⟩ := T
            simp only at *
            have A1 : Hid (Blk ((wr.setCell ⟨m, 1, none⟩ (.int .i64 (TS * 256))).setCell ⟨m, 2, none⟩ (.int .i64 ((TK : Int) + 1))) m 56 #[.slice (some ⟨g', 0, none⟩) (TK + 4) cap', .int .i64 (TS * 256), .int .i64 ((TK : Int) + 1)]) := Lib.hid (by
              have := (A.out.blk.set 1 (.int .i64 (TS * 256))).set 2 (.int .i64 ((TK : Int) + 1))
              simp only at this
              rw [HTl.out] at this
              exact this)
            have R1 : Hid (RowI ((wr.setCell ⟨m, 1, none⟩ (.int .i64 (TS * 256))).setCell ⟨m, 2, none⟩ (.int .i64 ((TK : Int) + 1))) 3 .i64 g' cap' TD) := Lib.hid ((A.out.row.other (a := ⟨m, 1, none⟩) (Ne.symm hne2) _).other (a := ⟨m, 2, none⟩) (Ne.symm hne2) _)
            have S1 : Hid (RStep m g g' w ((wr.setCell ⟨m, 1, none⟩ (.int .i64 (TS * 256))).setCell ⟨m, 2, none⟩ (.int .i64 ((TK : Int) + 1)))) := Lib.hid ((S0.out.setm 1 _).setm 2 _)
            have hrl := R1.out.lt
            have SL := Lib.hid (Sl.row R1.out)
            rw [HTl.out] at SL
            clear hlw A S0
            go_wp2_with (first
              | (at_builtin; refine wpList_push (.tmp 149) (.tmp 150) 54 3 .i64 0 8 rfl rfl Try.underlying54 Mdl.info_int (.slice (some ⟨g', 0, none⟩) (TK + 4) cap') TD (TK + 4) 0 ⟨wr.heap.size, 0, none⟩ (wr.heap.size + 1) rfl rfl ?_ HTl.out ?_ ?_ ?_ ?_ ?_
                 · exact SL.out.alloc _
                 · exact (Blk.new_at _ _ (by simp [World.setCell])).cell (i := 0) rfl
                 · simp [World.setCell]
                 · omega
                 · omega
                 intro g2 cap2 w2 hp
                 have b2 := (A1.out.alloc (.cells #[.int .i64 0] 3)).of_same (hp.block (by have := A1.out.lt; simp at this ⊢; omega) (fun e => hne2 (Option.some.inj e).symm))
                 have x0 := b2.cell (i := 0) rfl
                 have y0 := b2.free 0
                 have B2 := Lib.hid b2
                 have HP := Lib.hid hp
                 clear hp b2))
            go_roundg j
            case measure => omega
            case rel =>
              have hgm : g2 ≠ m := by
                rcases HP.out.at_ with h | h
                · have e : g' = g2 := Option.some.inj h
                  omega
                · omega
              have eT : (TD ++ [0]).length = TK + 4 + 1 := by rw [List.length_append, HTl.out]; rfl
              have eK : ((TK : Int) + 1) = ((TK + 1 : Nat) : Int) := by omega
              refine ⟨⟨TD ++ [0], TS * 256, TK + 1⟩, g2, cap2, by omega, hlw2, by simp only; omega, by simp only; omega, HSt.out.symm.trans HN.out, by show (TD ++ [0]).length = TK + 1 + 4; omega, ⟨?_, HP.out.row.other (a := ⟨m, 0, none⟩) hgm _, fun e => hgm e.symm⟩, ?_⟩
              · have := B2.out.set 0 (.slice (some ⟨g2, 0, none⟩) (TK + 4 + 1) cap2)
                simp only
                rw [eT, ← eK]
                exact this
              · have st : RStep m g' g2 ((wr.setCell ⟨m, 1, none⟩ (.int .i64 (TS * 256))).setCell ⟨m, 2, none⟩ (.int .i64 ((TK : Int) + 1))) w2 := by
                  refine ⟨((Only.refl _ _).alloc _).then HP.out.only (fun i hi => .inl (.inr (Option.some.inj hi).symm)), ?_⟩
                  rcases HP.out.at_ with h | h
                  · exact .inl (Option.some.inj h).symm
                  · refine .inr ?_
                    simp [World.setCell]; omega
                exact (S1.out.trans st).setm 0 _
          · have HF2 : Hid (rputS ⟨D, S, K⟩ lo ow al = T) := Lib.hid (HN.out.symm.trans (by
              cases gk with
              | zero => rfl
              | succ j => show (if T.S < 16777216 then rnorm j (rstep T) else T) = _; rw [if_neg hc]))
            clear HN
            go_wp2
            rw [HF2.out]
            exact bodyPost_end (results_none rfl _ _ _) rfl ⟨rfl, g', ⟨cap', A.out⟩, S0.out⟩
end Go.Proofs.Ytlbjoflmfboeeaa.Enc
