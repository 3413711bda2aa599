/-
  Law 7: RangedecAgain; no condition.
-/
import Derived.Test.YtlbjoflmfboeeaaLw7
import Derived.Test.YtlbjoflmfboeeaaAgp
import Derived.Test.YtlbjoflmfboeeaaU5
set_option linter.unusedVariables false
set_option linter.unusedSimpArgs false
namespace Go.Proofs.Ytlbjoflmfboeeaa.Deco
open Go.RowKit Go.Proofs.Ytlbjoflmfboeeaa Go.Proofs.YtlbjoflmfboeeaaW.PrintWords

attribute [local irreducible] takeS atS bt symS symK bitsD openS Mdl.next Mdl.lsum Enc.symS Enc.bitsS Enc.rsymS Enc.rbitsS run stp Enc.bytesS Enc.fresh
set_option maxHeartbeats 8000000 in
set_option maxRecDepth 100000 in
theorem again_law (c1 : Int) (a0 : Option Addr) (len0 cap0 : Nat) (z0 : List Int) (a2 : Option Addr) (len2 cap2 : Nat) (z2 : List Int) (W : World) (wf1 : (Lit.int .u8 c1).wf = true) (h0 : IsRow .u16 W a0 len0 cap0 z0) (y0 : len0 * 2 ≤ 140737488351232) (h2 : IsRow .u8 W a2 len2 cap2 z2) (y2 : len2 * 1 ≤ 140737488351232) :
    Calls Try.prog 7 #[.int .u8 c1, .slice a0 len0 cap0, .slice a2 len2 cap2] W fun e w' => e = .returned (.bool true) ∧ Below W.heap.size W w' := by
  have hc1 := wf_u8 wf1
  by_cases hs : 400 < len0 ∨ 50 < len2
  · by_cases hs1 : 400 < len0
    · go_enter Try.func7, Try.ntmps7
      go_wp2_with fail
      refine (lives_calls _).mono ?_
      rintro e1 w1 ⟨rfl, b1⟩
      have B1 := Lib.hid b1
      have s1 := b1.size
      clear b1
      go_wp2_with fail
      refine (lives_on B1.out s1).mono ?_
      rintro e2 w2 ⟨rfl, b2⟩
      have B2 := Lib.hid b2
      clear b2
      go_wp2_with fail
      go_ret
      exact ⟨rfl, B2.out⟩
    · have hs2 : 50 < len2 := by omega
      clear hs
      go_enter Try.func7, Try.ntmps7
      go_wp2_with fail
      refine (lives_calls _).mono ?_
      rintro e1 w1 ⟨rfl, b1⟩
      have B1 := Lib.hid b1
      have s1 := b1.size
      clear b1
      go_wp2_with fail
      refine (lives_on B1.out s1).mono ?_
      rintro e2 w2 ⟨rfl, b2⟩
      have B2 := Lib.hid b2
      clear b2
      go_wp2_with fail
      go_ret
      exact ⟨rfl, B2.out⟩
  · have hs1 : len0 ≤ 400 := by omega
    have hs2 : len2 ≤ 50 := by omega
    clear hs
    have SL := Lib.hid h0.src
    have ST := Lib.hid h2.src
    have WL : Hid (∀ x ∈ z0.take len0, 0 ≤ x ∧ x ≤ 65535) := Lib.hid (fun x hx => wf_u16 (h0.wf x hx))
    have WT : Hid (∀ x ∈ z2.take len2, 0 ≤ x ∧ x ≤ 255) := Lib.hid (fun x hx => wf_u8 (h2.wf x hx))
    have L0 := h0.take_len
    have L2 := h2.take_len
    clear h0 h2 y0 y2 wf1
    generalize z0.take len0 = ls at *
    generalize z2.take len2 = tl at *
    subst L0 L2
    obtain ⟨n, hn⟩ : ∃ n : Nat, 1 + c1 % 64 = (n : Int) := ⟨(1 + c1 % 64).toNat, by omega⟩
    have hn1 : 1 ≤ n := by omega
    have hn2 : n ≤ 64 := by omega
    have k1 : decide ((400 : Int) < (ls.length : Int)) = false := decide_eq_false (by omega)
    have k2 : decide ((50 : Int) < (tl.length : Int)) = false := decide_eq_false (by omega)
    have z1 : (n : Int) ≠ 0 := by omega
    have z2 : ((n : Int) == 0) = false := by rw [beq_eq_false_iff_ne]; omega
    have z3 : n ≠ 0 := by omega
    go_enter Try.func7, Try.ntmps7
    go_wp2_with fail
    refine (lives_calls _).mono ?_
    rintro e1 w1 ⟨rfl, b1⟩
    have B1 := Lib.hid b1
    have s1 := b1.size
    clear b1
    go_wp2_with fail
    refine (Mdl.New_yes n hn1 hn2 _).mono ?_
    rintro e2 w2 ⟨m, h, rfl, hm, hh, i2, b2⟩
    have I2 := Lib.hid i2
    have lm2 := i2.blk.lt
    have lh2 := i2.row.lt
    have B2 : Hid (Below W.heap.size W w2) := Lib.hid (B1.out.trans (b2.mono s1))
    have s2 := b2.size
    clear i2 b2 B1
    go_wp2_with fail
    refine (Mdl.New_yes n hn1 hn2 _).mono ?_
    rintro e3 w3 ⟨o, oh, rfl, ho, hoh, i3, b3⟩
    have I3 := Lib.hid i3
    have lo3 := i3.blk.lt
    have loh3 := i3.row.lt
    have J3 : Hid (Mdl.Is w3 m h n (List.replicate n 1) false) := Lib.hid (I2.out.only (Only.of_below b3 : Only (fun _ => False) _ _) (fun x => x) (fun x => x))
    have B3 : Hid (Below W.heap.size W w3) := Lib.hid (B2.out.trans (b3.mono (by omega)))
    have s3 := b3.size
    clear i3 b3 B2 I2
    go_wp2_with fail
    refine (Enc.New_calls _).mono ?_
    rintro e4 w4 ⟨rfl, i4, b4⟩
    have E4 := Lib.hid i4
    have J4 : Hid (Mdl.Is w4 m h n (List.replicate n 1) false) := Lib.hid (J3.out.only (Only.of_below b4 : Only (fun _ => False) _ _) (fun x => x) (fun x => x))
    have I4 : Hid (Mdl.Is w4 o oh n (List.replicate n 1) false) := Lib.hid (I3.out.only (Only.of_below b4 : Only (fun _ => False) _ _) (fun x => x) (fun x => x))
    have B4 : Hid (Below W.heap.size W w4) := Lib.hid (B3.out.trans (b4.mono (by omega)))
    have le := i4.blk.lt
    clear i4 b4 B3 J3 I3
    have hW : W.heap.size ≤ w1.heap.size := s1
    have hrun0 : run n (ls.take 0) = (Enc.rfresh, List.replicate n 1) := run_nil n
    go_wp2_with fail
    go_loopw [64] (fun u wr => ∃ (k : Nat) (s : Enc.St) (v : Value), k ≤ ls.length ∧ u = .int .i64 (k : Int) ∧ Hid (Enc.Is wr w3.heap.size s v) ∧ Hid (Enc.Rel s (run n (ls.take k)).1) ∧ Hid (∀ g, v.ownBlock = some g → w3.heap.size ≤ g) ∧ Hid (Mdl.Is wr m h n (run n (ls.take k)).2 false) ∧ Hid (Mdl.Is wr o oh n (List.replicate n 1) false) ∧ Hid (Below W.heap.size W wr) ∧ w3.heap.size < wr.heap.size) (fun u _ => ls.length - (intOf u).toNat)
    case atStart => exact ⟨0, Enc.fresh, .slice none 0 0, by omega, rfl, E4, Lib.hid (by rw [hrun0]; exact Enc.fresh_rel), Lib.hid (fun g hg => by cases hg), Lib.hid (by rw [hrun0]; exact J4.out), I4, B4, le⟩
    case round =>
      clear E4 J4 I4 B4 le hrun0
      obtain ⟨k, s, v, hk, rfl, E, RL, OW, J, I, B, le⟩ := hrel
      by_cases hlt : k < ls.length
      · obtain ⟨ad, rfl, dk⟩ := (Src.below SL.out B.out).cell hlt
        have hc := WL.out _ (List.getElem_mem hlt)
        have ik : (k : Int) < (ls.length : Int) := by omega
        have HR := Lib.hid (run_succ n ls k hlt)
        have FN := Lib.hid (run_fine hn1 hn2 (ls.take k))
        generalize run n (ls.take k) = P at *
        generalize ls[k] = c at *
        have hkk := mod_lt hn1 c
        have e1 : Int.tmod c n = ((c % n).toNat : Int) := by
          rw [Int.tmod_eq_emod_of_nonneg hc.1]
          have := Int.emod_nonneg c z1
          omega
        have HSt : Hid (stp n P c = (if c % 3 = 0 then Enc.rbitsS (Enc.rsymS P.1 P.2 (c % n).toNat) c 16 else Enc.rsymS P.1 P.2 (c % n).toNat, Mdl.next false P.2 (c % n).toNat)) := Lib.hid (by unfold stp; rfl)
        rw [HSt.out] at HR
        clear HSt
        generalize (c % n).toNat = kk at *
        have w1 : IntKind.i64.wrap (kk : Int) = (kk : Int) := wrapI64 (by omega) (by omega)
        have hl : kk < P.2.length := by rw [FN.out.1.len]; exact hkk
        have HK := Lib.hid hl
        have sm : s.k ≤ 2400 := by have := FN.out.2; rw [RL.out.k]; have h2 : (ls.take k).length ≤ 400 := by rw [List.length_take]; omega
                                   omega
        have RL5 := Lib.hid (Enc.symS_rel RL.out FN.out.1.g FN.out.1.good hl)
        have G5 := Lib.hid (Enc.rsymS_good FN.out.1.g FN.out.1.good hl)
        have R5 := Lib.hid (Enc.symS_ready (RL.out.ready FN.out.1.g) FN.out.1.good hl)
        go_wp2_with fail
        refine (Enc.Symbol_yes E.out (RL.out.ready FN.out.1.g) (by omega) J.out FN.out.1.good kk HK.out (by omega) (by omega) (fun hx => by have := OW.out _ hx; omega) (fun hx => by have := OW.out _ hx; omega)).mono ?_
        rintro e5 w5 ⟨v5, rfl, en5, mo5, o5, own5⟩
        have E5 := Lib.hid en5
        have J5 := Lib.hid mo5
        have OW5 : Hid (∀ g, v5.ownBlock = some g → w3.heap.size ≤ g) := Lib.hid (fun g hg => by
          rcases own5 g hg with h1 | h1
          · exact OW.out g h1
          · omega)
        have I5 : Hid (Mdl.Is w5 o oh n (List.replicate n 1) false) := Lib.hid (I.out.only o5 (fun hx => by
          rcases hx with (hx | hx) | hx
          · omega
          · have := OW.out _ hx; omega
          · omega) (fun hx => by
          rcases hx with (hx | hx) | hx
          · omega
          · have := OW.out _ hx; omega
          · omega))
        have B5 : Hid (Below W.heap.size W w5) := Lib.hid (B.out.trans (o5.below B.out.size (fun i hx => by
          rcases hx with (hx | hx) | hx
          · omega
          · have := OW.out _ hx; omega
          · omega)))
        have le5 : w3.heap.size < w5.heap.size := by have := o5.size; omega
        clear en5 mo5 o5 own5 E J I B OW
        by_cases h3 : c % 3 = 0
        · rw [if_pos h3] at HR
          have hc16 : c < 2 ^ 16 := by have : (2 : Int) ^ 16 = 65536 := by decide
                                       omega
          go_wp2_with fail
          refine (Enc.Bits_yes E5.out R5.out.1 (by have := R5.out.2.2; omega) c 16 hc.1 hc16 (by decide)).mono ?_
          rintro e6 w6 ⟨v6, rfl, en6, st6⟩
          have E6 := Lib.hid en6
          have OW6 : Hid (∀ g, v6.ownBlock = some g → w3.heap.size ≤ g) := Lib.hid (fun g hg => by
            rcases st6.own g hg with h1 | h1
            · exact OW5.out g h1
            · omega)
          have J6 := Lib.hid (J5.out.only st6.only (fun hx => by
            rcases hx with hx | hx
            · omega
            · have := OW5.out _ hx; omega) (fun hx => by
            rcases hx with hx | hx
            · omega
            · have := OW5.out _ hx; omega))
          have I6 := Lib.hid (I5.out.only st6.only (fun hx => by
            rcases hx with hx | hx
            · omega
            · have := OW5.out _ hx; omega) (fun hx => by
            rcases hx with hx | hx
            · omega
            · have := OW5.out _ hx; omega))
          have B6 : Hid (Below W.heap.size W w6) := Lib.hid (B5.out.trans (st6.only.below B5.out.size (fun i hx => by
            rcases hx with hx | hx
            · omega
            · have := OW5.out _ hx; omega)))
          have le6 : w3.heap.size < w6.heap.size := by have := st6.only.size; omega
          clear en6 st6 E5 J5 I5 B5 OW5
          go_wp2_with fail
          go_roundw
          case rel => exact ⟨k + 1, _, v6, by omega, by push_cast; rfl, E6, Lib.hid (by rw [HR.out]; exact Enc.bitsS_rel RL5.out G5.out.1 c 16 (by decide)), OW6, Lib.hid (by rw [HR.out]; exact J6.out), I6, B6, le6⟩
          case measure => simp [intOf]; omega
        · rw [if_neg h3] at HR
          go_wp2_with fail
          go_roundw
          case rel => exact ⟨k + 1, _, v5, by omega, by push_cast; rfl, E5, Lib.hid (by rw [HR.out]; exact RL5.out), OW5, Lib.hid (by rw [HR.out]; exact J5.out), I5, B5, le5⟩
          case measure => simp [intOf]; omega
      · obtain rfl : k = ls.length := by omega
        rw [List.take_of_length_le (Nat.le_refl _)] at RL J
        have FN := Lib.hid (run_fine hn1 hn2 ls)
        obtain ⟨RN, hRN⟩ : ∃ RN, (run n ls).1 = RN := ⟨_, rfl⟩
        have HRN := Lib.hid hRN
        have GN : Hid (Enc.RGood RN) := Lib.hid (by rw [← hRN]; exact FN.out.1.g)
        have hkn : RN.K ≤ 2400 := by rw [← hRN]; have := FN.out.2; omega
        rw [hRN] at RL
        clear hRN J FN
        have sm : s.k ≤ 2400 := by rw [RL.out.k]; exact hkn
        have RF := Lib.hid (Enc.bitsS_rel RL.out GN.out 5 4 (by decide))
        have GF := Lib.hid (Enc.rbitsS_good GN.out 5 4 (by decide))
        have SF := Lib.hid (Enc.bitsS_ready (RL.out.ready GN.out) 5 4 (by decide))
        go_wp2_with fail
        refine (Enc.Bits_yes E.out (RL.out.ready GN.out) (by omega) 5 4 (by decide) (by decide) (by decide)).mono ?_
        rintro e6 w6 ⟨v6, rfl, en6, st6⟩
        have E6 := Lib.hid en6
        have OW6 : Hid (∀ g, v6.ownBlock = some g → w3.heap.size ≤ g) := Lib.hid (fun g hg => by
          rcases st6.own g hg with h1 | h1
          · exact OW.out g h1
          · omega)
        have I6 := Lib.hid (I.out.only st6.only (fun hx => by
          rcases hx with hx | hx
          · omega
          · have := OW.out _ hx; omega) (fun hx => by
          rcases hx with hx | hx
          · omega
          · have := OW.out _ hx; omega))
        have B6 : Hid (Below W.heap.size W w6) := Lib.hid (B.out.trans (st6.only.below B.out.size (fun i hx => by
          rcases hx with hx | hx
          · omega
          · have := OW.out _ hx; omega)))
        have le6 : w3.heap.size < w6.heap.size := by have := st6.only.size; omega
        have ow6 : Hid (∀ g, v6.ownBlock = some g → g < w6.heap.size) := Lib.hid (fun g hg => en6.sl.lt hg)
        have BR := Lib.hid (Enc.bytes_rel RF.out GF.out.1)
        have BY := Lib.hid (Enc.bytes_byt RF.out GF.out.1)
        generalize Enc.bitsS s 5 4 = sF at *
        have hkF : sF.k ≤ 2410 := by have := SF.out.2.2; omega
        obtain ⟨FR, hFR⟩ : ∃ FR, Enc.rbitsS RN 5 4 = FR := ⟨_, rfl⟩
        have HFR := Lib.hid hFR
        rw [hFR] at RF GF BR
        clear hFR en6 st6 E I B OW RL
        have FK := Lib.hid RF.out.k
        go_wp2_with fail
        refine (Enc.Bytes_some E6.out SF.out.1 (by omega)).mono ?_
        rintro e7 w7 ⟨bv, rfl, sl7, ho7, b7⟩
        obtain ⟨bs, hbs⟩ : ∃ bs, Enc.bytesS sF = bs := ⟨_, rfl⟩
        rw [hbs] at sl7 BR BY
        clear hbs
        have SB7 := Lib.hid sl7
        have OB7 := Lib.hid ho7
        have LB7 : Hid (∀ g, bv.ownBlock = some g → g < w7.heap.size) := Lib.hid (fun g hg => sl7.lt hg)
        have E7 := Lib.hid (E6.out.below b7)
        have I7 := Lib.hid (I6.out.only (Only.of_below b7 : Only (fun _ => False) _ _) (fun x => x) (fun x => x))
        have B7 : Hid (Below W.heap.size W w7) := Lib.hid (B6.out.trans (b7.mono (by omega)))
        have s7 := b7.size
        clear sl7 ho7 b7 E6 I6 B6
        obtain ⟨bad, bcap, rfl, _⟩ := SB7.out.form
        have hbl : bs.length ≤ 2420 := by have := BY.out.2; omega
        have BYT : Hid (Byt bs) := Lib.hid ⟨BY.out.1, by omega⟩
        go_wp2_with fail
        refine (New_calls (Src.of_sl SB7.out) BYT.out).mono ?_
        rintro e8 w8 ⟨d, v8, rfl, hd, ho8, i8, b8⟩
        have D8 := Lib.hid i8
        have O8 := Lib.hid ho8
        have E8 := Lib.hid (E7.out.below b8)
        have I8 := Lib.hid (I7.out.only (Only.of_below b8 : Only (fun _ => False) _ _) (fun x => x) (fun x => x))
        have SB8 := Lib.hid (SB7.out.below b8 (fun g hg => SB7.out.lt hg))
        have B8 : Hid (Below W.heap.size W w8) := Lib.hid (B7.out.trans (b8.mono (by omega)))
        have s8 := b8.size
        have ld := i8.blk.lt
        clear i8 ho8 b8 E7 I7 SB7 B7
        have IN := Lib.hid (inside_own GF.out.1 bs (fun i _ => by rw [BR.out]; exact strip_getD _ i))
        have IN0 : Hid (Inside bs RN) := Lib.hid (bits_back BY.out.1 GN.out 5 4 (by decide) (by rw [HFR.out]; exact IN.out))
        have OV : Hid (∀ g, v8.ownBlock = some g → w7.heap.size ≤ g) := O8
        have LW0 : Hid (w8.heap.size ≤ w8.heap.size) := Lib.hid (Nat.le_refl _)
        have E0 := E8
        have SB0 := SB8
        clear E8 SB8
        go_wp2_with fail
        go_loopw [94] (fun u wr => ∃ (k : Nat) (ds : DSt), k ≤ ls.length ∧ u = .int .i64 (k : Int) ∧ Hid (Is wr d 120 .u32 ds v8) ∧ Hid ds.Ready ∧ Hid (DRel ds (run n (ls.take k)).1) ∧ Hid (ds.bs = bs) ∧ Hid (Mdl.Is wr o oh n (run n (ls.take k)).2 false) ∧ Hid (Below W.heap.size W wr) ∧ Hid (Enc.Is wr w3.heap.size sF v6) ∧ Hid (Sl wr 5 .u8 (.slice bad bs.length bcap) bs) ∧ Hid (w8.heap.size ≤ wr.heap.size)) (fun u _ => ls.length - (intOf u).toNat)
        case atStart => exact ⟨0, openS bs, by omega, rfl, D8, open_ready bs BYT.out, Lib.hid (by rw [show ls.take 0 = [] from rfl, run_nil]; exact open_rel bs), Lib.hid (by unfold openS; rfl), Lib.hid (by rw [show ls.take 0 = [] from rfl, run_nil]; exact I8.out), B8, E0, SB0, LW0⟩
        case round =>
          clear D8 I8 B8 E0 SB0 LW0
          obtain ⟨k, ds, hk, rfl, D1, OK, DR, HB, M1, BW1, E1, SB1, LW1⟩ := hrel
          by_cases hlt : k < ls.length
          · obtain ⟨ad, rfl, dk⟩ := (Src.below SL.out BW1.out).cell hlt
            have hc := WL.out _ (List.getElem_mem hlt)
            have ik : (k : Int) < (ls.length : Int) := by omega
            have FN := Lib.hid (run_fine hn1 hn2 (ls.take k))
            have hb := BYT.out.1
            have ib := run_back hb hn1 hn2 ls (by rw [HRN.out]; exact IN0.out) (k + 1) (by omega)
            have HR := Lib.hid (run_succ n ls k hlt)
            rw [HR.out] at ib
            have hk400 : (ls.take k).length ≤ 400 := by rw [List.length_take]; omega
            have hnn : ds.n ≤ 2404 := by have := DR.out.n; have := FN.out.2; omega
            generalize run n (ls.take k) = P at *
            generalize ls[k] = c at *
            have hkk := mod_lt hn1 c
            have e1 : Int.tmod c n = ((c % n).toNat : Int) := by
              rw [Int.tmod_eq_emod_of_nonneg hc.1]
              have := Int.emod_nonneg c z1
              omega
            have sb := stp_back hb hn1 FN.out.1 ib
            have HSt : Hid (stp n P c = (if c % 3 = 0 then Enc.rbitsS (Enc.rsymS P.1 P.2 (c % n).toNat) c 16 else Enc.rsymS P.1 P.2 (c % n).toNat, Mdl.next false P.2 (c % n).toNat)) := Lib.hid (by unfold stp; rfl)
            rw [HSt.out] at HR ib
            clear HSt
            generalize (c % n).toNat = kk at *
            have w1 : IntKind.i64.wrap (kk : Int) = (kk : Int) := wrapI64 (by omega) (by omega)
            have hl : kk < P.2.length := by rw [FN.out.1.len]; exact hkk
            have G5 := Lib.hid (Enc.rsymS_good FN.out.1.g FN.out.1.good hl)
            have SI := Lib.hid (sym_inv DR.out FN.out.1.g FN.out.1.good hl (by rw [HB.out]; exact hb) (by rw [HB.out]; exact sb.1))
            have SR := Lib.hid (sym_ready OK.out FN.out.1.good)
            have IB := Lib.hid ib
            have SY := Lib.hid (Symbol_yes D1.out OK.out (by omega) M1.out FN.out.1.good (by omega) (by omega) (fun hx => by have := OV.out _ hx; omega) (fun hx => by have := OV.out _ hx; omega))
            rw [SI.out.1] at SY
            clear ib sb hb
            go_wp2_with fail
            refine SY.out.mono ?_
            rintro e5 w5 ⟨rfl, de5, mo5, o5⟩
            have D5 := Lib.hid de5
            have M5 := Lib.hid mo5
            have BW5 : Hid (Below W.heap.size W w5) := Lib.hid (BW1.out.trans (o5.below BW1.out.size (fun i hi => by omega)))
            have E5 : Hid (Enc.Is w5 w3.heap.size sF v6) := Lib.hid (E1.out.only o5 (fun hx => by omega) (fun g hg hx => by have := ow6.out _ hg; have := OW6.out _ hg; omega))
            have SB5 : Hid (Sl w5 5 .u8 (.slice bad bs.length bcap) bs) := Lib.hid (SB1.out.only o5 (fun g hg hx => by have := LB7.out _ hg; have := OB7.out _ hg; omega))
            have LW5 : Hid (w8.heap.size ≤ w5.heap.size) := Lib.hid (by have := o5.size; have := LW1.out; omega)
            clear de5 mo5 o5 D1 M1 BW1 SY E1 SB1 LW1
            by_cases h3 : c % 3 = 0
            · rw [if_pos h3] at HR IB
              have hc16 : c < 2 ^ 16 := by have : (2 : Int) ^ 16 = 65536 := by decide
                                           omega
              have BI := Lib.hid (bits_inv SI.out.2.1 G5.out.1 hc.1 hc16 (by decide) (by rw [SI.out.2.2, HB.out]; exact BYT.out.1) (by rw [SI.out.2.2, HB.out]; exact IB.out))
              have BR5 := Lib.hid (bits_ready SR.out.1 0 16 (by decide))
              have BT := Lib.hid (Bits_yes D5.out SR.out.1 (by have := SR.out.2.2.2; omega) 16 (by decide))
              rw [BI.out.1] at BT
              go_wp2_with fail
              refine BT.out.mono ?_
              rintro e6 w6 ⟨rfl, de6, o6⟩
              have D6 := Lib.hid de6
              have M6 := Lib.hid (M5.out.only o6 (fun hx => by omega) (fun hx => by omega))
              have BW6 : Hid (Below W.heap.size W w6) := Lib.hid (BW5.out.trans (o6.below BW5.out.size (fun i hi => by omega)))
              have E6 : Hid (Enc.Is w6 w3.heap.size sF v6) := Lib.hid (E5.out.only o6 (fun hx => by omega) (fun g hg hx => by have := ow6.out _ hg; have := OW6.out _ hg; omega))
              have SB6 : Hid (Sl w6 5 .u8 (.slice bad bs.length bcap) bs) := Lib.hid (SB5.out.only o6 (fun g hg hx => by have := LB7.out _ hg; have := OB7.out _ hg; omega))
              have LW6 : Hid (w8.heap.size ≤ w6.heap.size) := Lib.hid (by have := o6.size; have := LW5.out; omega)
              clear de6 o6 D5 M5 BW5 BT E5 SB5 LW5
              go_wp2_with fail
              go_roundw
              case rel => exact ⟨k + 1, _, by omega, by push_cast; rfl, D6, BR5.out.1, Lib.hid (by rw [HR.out]; exact BI.out.2.1), Lib.hid (by rw [BI.out.2.2, SI.out.2.2, HB.out]), Lib.hid (by rw [HR.out]; exact M6.out), BW6, E6, SB6, LW6⟩
              case measure => simp [intOf]; omega
            · rw [if_neg h3] at HR
              go_wp2_with fail
              go_roundw
              case rel => exact ⟨k + 1, _, by omega, by push_cast; rfl, D5, SR.out.1, Lib.hid (by rw [HR.out]; exact SI.out.2.1), Lib.hid (by rw [SI.out.2.2, HB.out]), Lib.hid (by rw [HR.out]; exact M5.out), BW5, E5, SB5, LW5⟩
              case measure => simp [intOf]; omega
          · obtain rfl : k = ls.length := by omega
            rw [List.take_of_length_le (Nat.le_refl _), HRN.out] at DR
            have BI := Lib.hid (bits_inv (n := 5) (w := 4) DR.out GN.out (by decide) (by decide) (by decide) (by rw [HB.out]; exact BYT.out.1) (by rw [HB.out, HFR.out]; exact IN.out))
            have hnn : ds.n ≤ 2404 := by have := DR.out.n; omega
            have BT := Lib.hid (Bits_yes D1.out OK.out (by omega) 4 (by decide))
            rw [BI.out.1] at BT
            go_wp2_with fail
            refine BT.out.mono ?_
            rintro e9 w9 ⟨rfl, de9, o9⟩
            have E9 := Lib.hid (E1.out.only o9 (fun hx => by omega) (fun g hg hx => by have := ow6.out _ hg; omega))
            have SB9 := Lib.hid (SB1.out.only o9 (fun g hg hx => by have := LB7.out _ hg; omega))
            have BW9 : Hid (Below W.heap.size W w9) := Lib.hid (BW1.out.trans (o9.below BW1.out.size (fun i hi => by omega)))
            have le9 : w8.heap.size ≤ w9.heap.size := by have := o9.size; have := LW1.out; omega
            clear de9 o9 D1 M1 BW1 E1 SB1 BT BI DR OK HB
            obtain ⟨zn, hzn⟩ : ∃ zn : Nat, bs.length + zn = sF.k + 4 := ⟨sF.k + 4 - bs.length, by have := BY.out.2; omega⟩
            have hz : ((sF.k + 4 : Nat) : Int) - (bs.length : Int) = (zn : Int) := by omega
            have hz' : (sF.k : Int) + 4 - (bs.length : Int) = (zn : Int) := by omega
            have wz : IntKind.i64.wrap (zn : Int) = (zn : Int) := wrapI64 (by omega) (by omega)
            have S0 := Lib.hid (Sl.empty w9 5 .u8)
            have b10 : Below w9.heap.size w9 (w9.alloc (.cells #[] 5)) := (Below.refl _ _).alloc (Nat.le_refl _) _
            have SB10 : Hid (Src (w9.alloc (.cells #[] 5)) .u8 (.slice bad bs.length bcap) bs) := Lib.hid (Src.below (Src.of_sl SB9.out) b10)
            have E10 := Lib.hid (E9.out.below b10)
            have B10 : Hid (Below W.heap.size W (w9.alloc (.cells #[] 5))) := Lib.hid (BW9.out.alloc BW9.out.size _)
            have l10 : (w9.alloc (.cells #[] 5)).heap.size = w9.heap.size + 1 := by simp
            have BW9s := BW9.out.size
            clear b10 E9 SB9 BW9
            go_wp2_with (first
              | (at_builtin; refine wpList_add (.tmp 136) (.tmp 137) 35 5 .u8 0 1 rfl rfl Try.underlying35 Enc.info_u8 (.slice (some ⟨w9.heap.size, 0, none⟩) 0 0) (.slice bad bs.length bcap) [] bs rfl rfl S0.out SB10.out (by simp; omega) (by simp; omega) ?_
                 intro v11 w11 hp
                 have S11 := Lib.hid hp.sl
                 have H11 := Lib.hid (Added.fresh hp)
                 have E11 : Hid (Enc.Is w11 w3.heap.size sF v6) := Lib.hid (E10.out.only hp.only (fun hx => by have hx : some w9.heap.size = some w3.heap.size := hx; injection hx with hx; omega) (fun g hg hx => by have hx : some w9.heap.size = some g := hx; injection hx with hx; have := ow6.out _ hg; omega))
                 have B11 : Hid (Below W.heap.size W w11) := Lib.hid (B10.out.trans (hp.only.below (by rw [l10]; omega) (fun i hi => by have hi : some w9.heap.size = some i := hi; injection hi with hi; have := BW9s; omega)))
                 have s11 := hp.only.size
                 clear hp S0 SB10 E10 B10
                 obtain ⟨ad11, cap11, rfl, _⟩ := S11.out.form
                 rw [List.nil_append] at S11 H11)
              | (go_at_call 20
                 refine (Enc.Len_some E11.out SF.out.1.he0 (by omega)).mono ?_
                 rintro e12 w12 ⟨rfl, b12⟩
                 have S12 := Lib.hid (S11.out.below b12 (fun g hg => S11.out.lt hg))
                 have L12 : Hid (∀ g, (Value.slice ad11 bs.length cap11).ownBlock = some g → w9.heap.size ≤ g ∧ g < w11.heap.size) := Lib.hid (fun g hg => ⟨H11.out.2 g hg, S11.out.lt hg⟩)
                 have B12 : Hid (Below W.heap.size W w12) := Lib.hid (B11.out.trans (b12.mono (by omega)))
                 have s12 := b12.size
                 clear b12 S11 H11 E11 B11)
              | (at_builtin; refine wpList_zeros (.tmp 138) (.tmp 143) 35 3 5 .u8 .i64 .i64 1 rfl rfl Try.underlying35 Try.underlying3 Enc.info_u8 _ bs zn rfl rfl S12.out (by omega) (by omega) ?_
                 intro v13 w13 hp
                 have S13 := Lib.hid hp.sl
                 have O13 : Hid (∀ g, v13.ownBlock = some g → w9.heap.size ≤ g) := Lib.hid (fun g hg => by
                   rcases hp.at_ with h1 | h1
                   · rw [h1] at hg; exact (L12.out g hg).1
                   · rw [h1] at hg; injection hg with hg; omega)
                 have B13 : Hid (Below W.heap.size W w13) := Lib.hid (B12.out.trans (hp.only.below (by have := B12.out.size; omega) (fun i hi => by have := (L12.out i hi).1; omega)))
                 have s13 := hp.only.size
                 clear hp S12 L12 B12)
              | (at_builtin; refine wpList_add (.tmp 145) (.tmp 146) 35 5 .u8 0 1 rfl rfl Try.underlying35 Enc.info_u8 _ _ (bs ++ List.replicate zn 0) tl rfl rfl S13.out (Src.below ST.out B13.out) (by simp; omega) (by simp; omega) ?_
                 intro v14 w14 hp
                 have S14 := Lib.hid hp.sl
                 have B14 : Hid (Below W.heap.size W w14) := Lib.hid (B13.out.trans (hp.only.below (by have := B13.out.size; omega) (fun i hi => by have := O13.out i hi; omega)))
                 have s14 := hp.only.size
                 clear hp S13 O13 B13))
            obtain ⟨bs2, hbs2⟩ : ∃ bs2, bs ++ List.replicate zn 0 ++ tl = bs2 := ⟨_, rfl⟩
            have hd2 : FR.D = bs ++ List.replicate zn 0 := by
              obtain ⟨q, hq⟩ := Enc.strip_pre FR.D
              rw [← BR.out] at hq
              have h1 := congrArg List.length hq
              rw [GF.out.1.len] at h1
              simp at h1
              have : q = zn := by have := FK.out; omega
              rw [this] at hq
              exact hq
            have BYT2 : Hid (Byt bs2) := Lib.hid ⟨fun x hx => by
              rw [← hbs2] at hx
              rcases List.mem_append.1 hx with hx | hx
              · rw [← hd2] at hx; exact GF.out.1.dig x hx
              · exact WT.out x hx, by rw [← hbs2]; simp; omega⟩
            have IN2 := Lib.hid (inside_own GF.out.1 bs2 (fun i hi => by rw [← hbs2, getD_pre _ _ _ (by rw [← hd2, GF.out.1.len]; exact hi), hd2]))
            have IN3 : Hid (Inside bs2 RN) := Lib.hid (bits_back BYT2.out.1 GN.out 5 4 (by decide) (by rw [HFR.out]; exact IN2.out))
            rw [hbs2] at S14
            clear hd2 hbs2 IN IN0 BYT IN2
            refine (New_calls (Src.of_sl S14.out) BYT2.out).mono ?_
            rintro e15 w15 ⟨d2, v15, rfl, hd15, ho15, i15, b15⟩
            have D15 := Lib.hid i15
            have O15 := Lib.hid ho15
            have B15 : Hid (Below W.heap.size W w15) := Lib.hid (B14.out.trans (b15.mono (by have := B14.out.size; omega)))
            have s15 := b15.size
            have ld15 := i15.blk.lt
            have L15 : Hid (∀ g, v15.ownBlock = some g → g < w15.heap.size) := Lib.hid (fun g hg => i15.sl.lt hg)
            clear i15 ho15 b15 B14 S14
            go_wp2_with fail
            refine (Mdl.New_yes n hn1 hn2 _).mono ?_
            rintro e16 w16 ⟨pm, ph, rfl, hpm, hph, i16, b16⟩
            have M16 := Lib.hid i16
            have D16 := Lib.hid (D15.out.below b16)
            have B16 : Hid (Below W.heap.size W w16) := Lib.hid (B15.out.trans (b16.mono (by have := B15.out.size; omega)))
            have s16 := b16.size
            clear i16 b16 D15 B15
            have OV : Hid (∀ g, v15.ownBlock = some g → g < w15.heap.size) := L15
            go_wp2_with fail
            go_loopw [156] (fun u wr => ∃ (k : Nat) (ds : DSt), k ≤ ls.length ∧ u = .int .i64 (k : Int) ∧ Hid (Is wr d2 120 .u32 ds v15) ∧ Hid ds.Ready ∧ Hid (DRel ds (run n (ls.take k)).1) ∧ Hid (ds.bs = bs2) ∧ Hid (Mdl.Is wr pm ph n (run n (ls.take k)).2 false) ∧ Hid (Below W.heap.size W wr)) (fun u _ => ls.length - (intOf u).toNat)
            case atStart => exact ⟨0, openS bs2, by omega, rfl, D16, open_ready bs2 BYT2.out, Lib.hid (by rw [show ls.take 0 = [] from rfl, run_nil]; exact open_rel bs2), Lib.hid (by unfold openS; rfl), Lib.hid (by rw [show ls.take 0 = [] from rfl, run_nil]; exact M16.out), B16⟩
            case round =>
              clear D16 M16 B16
              obtain ⟨k, ds, hk, rfl, D1, OK, DR, HB, M1, BW1⟩ := hrel
              by_cases hlt : k < ls.length
              · obtain ⟨ad, rfl, dk⟩ := (Src.below SL.out BW1.out).cell hlt
                have hc := WL.out _ (List.getElem_mem hlt)
                have ik : (k : Int) < (ls.length : Int) := by omega
                have FN := Lib.hid (run_fine hn1 hn2 (ls.take k))
                have hb := BYT2.out.1
                have ib := run_back hb hn1 hn2 ls (by rw [HRN.out]; exact IN3.out) (k + 1) (by omega)
                have HR := Lib.hid (run_succ n ls k hlt)
                rw [HR.out] at ib
                have hk400 : (ls.take k).length ≤ 400 := by rw [List.length_take]; omega
                have hnn : ds.n ≤ 2404 := by have := DR.out.n; have := FN.out.2; omega
                generalize run n (ls.take k) = P at *
                generalize ls[k] = c at *
                have hkk := mod_lt hn1 c
                have e1 : Int.tmod c n = ((c % n).toNat : Int) := by
                  rw [Int.tmod_eq_emod_of_nonneg hc.1]
                  have := Int.emod_nonneg c z1
                  omega
                have sb := stp_back hb hn1 FN.out.1 ib
                have HSt : Hid (stp n P c = (if c % 3 = 0 then Enc.rbitsS (Enc.rsymS P.1 P.2 (c % n).toNat) c 16 else Enc.rsymS P.1 P.2 (c % n).toNat, Mdl.next false P.2 (c % n).toNat)) := Lib.hid (by unfold stp; rfl)
                rw [HSt.out] at HR ib
                clear HSt
                generalize (c % n).toNat = kk at *
                have w1 : IntKind.i64.wrap (kk : Int) = (kk : Int) := wrapI64 (by omega) (by omega)
                have hl : kk < P.2.length := by rw [FN.out.1.len]; exact hkk
                have G5 := Lib.hid (Enc.rsymS_good FN.out.1.g FN.out.1.good hl)
                have SI := Lib.hid (sym_inv DR.out FN.out.1.g FN.out.1.good hl (by rw [HB.out]; exact hb) (by rw [HB.out]; exact sb.1))
                have SR := Lib.hid (sym_ready OK.out FN.out.1.good)
                have IB := Lib.hid ib
                have SY := Lib.hid (Symbol_yes D1.out OK.out (by omega) M1.out FN.out.1.good (by omega) (by omega) (fun hx => by have := OV.out _ hx; omega) (fun hx => by have := OV.out _ hx; omega))
                rw [SI.out.1] at SY
                clear ib sb hb
                go_wp2_with fail
                refine SY.out.mono ?_
                rintro e5 w5 ⟨rfl, de5, mo5, o5⟩
                have D5 := Lib.hid de5
                have M5 := Lib.hid mo5
                have BW5 : Hid (Below W.heap.size W w5) := Lib.hid (BW1.out.trans (o5.below BW1.out.size (fun i hi => by omega)))
                clear de5 mo5 o5 D1 M1 BW1 SY
                by_cases h3 : c % 3 = 0
                · rw [if_pos h3] at HR IB
                  have hc16 : c < 2 ^ 16 := by have : (2 : Int) ^ 16 = 65536 := by decide
                                               omega
                  have BI := Lib.hid (bits_inv SI.out.2.1 G5.out.1 hc.1 hc16 (by decide) (by rw [SI.out.2.2, HB.out]; exact BYT2.out.1) (by rw [SI.out.2.2, HB.out]; exact IB.out))
                  have BR5 := Lib.hid (bits_ready SR.out.1 0 16 (by decide))
                  have BT := Lib.hid (Bits_yes D5.out SR.out.1 (by have := SR.out.2.2.2; omega) 16 (by decide))
                  rw [BI.out.1] at BT
                  go_wp2_with fail
                  refine BT.out.mono ?_
                  rintro e6 w6 ⟨rfl, de6, o6⟩
                  have D6 := Lib.hid de6
                  have M6 := Lib.hid (M5.out.only o6 (fun hx => by omega) (fun hx => by omega))
                  have BW6 : Hid (Below W.heap.size W w6) := Lib.hid (BW5.out.trans (o6.below BW5.out.size (fun i hi => by omega)))
                  clear de6 o6 D5 M5 BW5 BT
                  go_wp2_with fail
                  go_roundw
                  case rel => exact ⟨k + 1, _, by omega, by push_cast; rfl, D6, BR5.out.1, Lib.hid (by rw [HR.out]; exact BI.out.2.1), Lib.hid (by rw [BI.out.2.2, SI.out.2.2, HB.out]), Lib.hid (by rw [HR.out]; exact M6.out), BW6⟩
                  case measure => simp [intOf]; omega
                · rw [if_neg h3] at HR
                  go_wp2_with fail
                  go_roundw
                  case rel => exact ⟨k + 1, _, by omega, by push_cast; rfl, D5, SR.out.1, Lib.hid (by rw [HR.out]; exact SI.out.2.1), Lib.hid (by rw [SI.out.2.2, HB.out]), Lib.hid (by rw [HR.out]; exact M5.out), BW5⟩
                  case measure => simp [intOf]; omega
              · obtain rfl : k = ls.length := by omega
                rw [List.take_of_length_le (Nat.le_refl _), HRN.out] at DR
                go_wp2_with fail
                go_ret
                exact ⟨rfl, BW1.out⟩
end Go.Proofs.Ytlbjoflmfboeeaa.Deco
