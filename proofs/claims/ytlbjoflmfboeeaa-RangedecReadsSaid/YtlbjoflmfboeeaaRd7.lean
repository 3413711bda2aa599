/-
  Law 7: RangedecReads; no condition.
-/
import Derived.Test.YtlbjoflmfboeeaaLw7
import Derived.Test.YtlbjoflmfboeeaaDer
import Derived.Test.YtlbjoflmfboeeaaU4
set_option linter.unusedVariables false
set_option linter.unusedSimpArgs false
namespace Go.Proofs.Ytlbjoflmfboeeaa.Deco
open Go.RowKit Go.Proofs.Ytlbjoflmfboeeaa Go.Proofs.YtlbjoflmfboeeaaW.PrintWords

theorem byt_of {k : Nat} {w : World} {a : Option Addr} {len cap : Nat} {zs : List Int} (h : IsRow .u8 w a len cap zs) (hl : len ≤ 1000000000) : Byt (zs.take len) :=
  ⟨fun x hx => wf_u8 (h.wf x hx), by rw [h.take_len]; exact hl⟩
/-- Both models and both decoders in memory. -/
structure Both (W wr : World) (m h cm rm rh rc d rd : Nat) (v vr : Value) (L : List Int) (s : DSt) : Prop where
  mo : Mdl.Is wr m h cm L false
  rmo : Mdl.IsR wr rm rh rc L false
  de : Is wr d 120 .u32 s v
  rde : Is wr rd 69 .i64 s vr
  below : Below W.heap.size W wr
theorem Both.only {W wr w' : World} {m h cm rm rh rc d rd : Nat} {v vr : Value} {L : List Int} {s : DSt} {S : Nat → Prop} (a : Both W wr m h cm rm rh rc d rd v vr L s) (o : Only S wr w')
    (hS : ∀ i, S i → W.heap.size ≤ i ∧ i ≠ m ∧ i ≠ h ∧ i ≠ rm ∧ i ≠ rh ∧ i ≠ d ∧ i ≠ rd ∧ v.ownBlock ≠ some i ∧ vr.ownBlock ≠ some i) : Both W w' m h cm rm rh rc d rd v vr L s :=
  ⟨a.mo.only o (fun x => (hS _ x).2.1 rfl) (fun x => (hS _ x).2.2.1 rfl), a.rmo.only o (fun x => (hS _ x).2.2.2.1 rfl) (fun x => (hS _ x).2.2.2.2.1 rfl),
   a.de.only o (fun x => (hS _ x).2.2.2.2.2.1 rfl) (fun g hg x => (hS _ x).2.2.2.2.2.2.2.1 hg), a.rde.only o (fun x => (hS _ x).2.2.2.2.2.2.1 rfl) (fun g hg x => (hS _ x).2.2.2.2.2.2.2.2 hg),
   a.below.trans (o.below a.below.size (fun i hi => (hS i hi).1))⟩
attribute [local irreducible] takeS atS bt symS symK bitsD openS Mdl.next Mdl.lsum
set_option maxHeartbeats 4000000 in
set_option maxRecDepth 100000 in
theorem reads_law (a0 : Option Addr) (len0 cap0 : Nat) (z0 : List Int) (c1 : Int) (a2 : Option Addr) (len2 cap2 : Nat) (z2 : List Int) (W : World) (h0 : IsRow .u8 W a0 len0 cap0 z0) (y0 : len0 * 1 ≤ 140737488351232) (wf1 : (Lit.int .u8 c1).wf = true) (h2 : IsRow .u8 W a2 len2 cap2 z2) (y2 : len2 * 1 ≤ 140737488351232) :
    Calls Try.prog 5 #[.slice a0 len0 cap0, .int .u8 c1, .slice a2 len2 cap2] W fun e w' => e = .returned (.bool true) ∧ Below W.heap.size W w' := by
  have hc1 := wf_u8 wf1
  by_cases hs : 500 < len0 ∨ 300 < len2
  · by_cases hs1 : 500 < len0
    · go_enter Try.func5, Try.ntmps5
      go_wp2_with fail
      refine (lives_calls _).mono ?_
      rintro e1 w1 ⟨rfl, b1⟩
      have B1 := Lib.hid b1
      have s1 := b1.size
      clear b1
      go_wp2_with fail
      refine (lives_on B1.out s1).mono ?_
      rintro e2 w2 ⟨rfl, b2⟩
      have B2 := Lib.hid b2
      clear b2
      go_wp2_with fail
      go_ret
      exact ⟨rfl, B2.out⟩
    · have hs2 : 300 < len2 := by omega
      clear hs
      go_enter Try.func5, Try.ntmps5
      go_wp2_with fail
      refine (lives_calls _).mono ?_
      rintro e1 w1 ⟨rfl, b1⟩
      have B1 := Lib.hid b1
      have s1 := b1.size
      clear b1
      go_wp2_with fail
      refine (lives_on B1.out s1).mono ?_
      rintro e2 w2 ⟨rfl, b2⟩
      have B2 := Lib.hid b2
      clear b2
      go_wp2_with fail
      go_ret
      exact ⟨rfl, B2.out⟩
  · have hs1 : len0 ≤ 500 := by omega
    have hs2 : len2 ≤ 300 := by omega
    clear hs
    have SB := Lib.hid h0.src
    have SL := Lib.hid h2.src
    have BY := Lib.hid (byt_of (k := 0) h0 (by omega))
    have WL : Hid (∀ x ∈ z2.take len2, 0 ≤ x ∧ x ≤ 255) := Lib.hid (fun x hx => wf_u8 (h2.wf x hx))
    have L0 := h0.take_len
    have L2 := h2.take_len
    clear h0 h2 y0 y2 wf1
    generalize z0.take len0 = bs at *
    generalize z2.take len2 = ls at *
    subst L0 L2
    obtain ⟨n, hn⟩ : ∃ n : Nat, 1 + c1 % 64 = (n : Int) := ⟨(1 + c1 % 64).toNat, by omega⟩
    have hn1 : 1 ≤ n := by omega
    have k1 : decide ((500 : Int) < (bs.length : Int)) = false := decide_eq_false (by omega)
    have k2 : decide ((300 : Int) < (ls.length : Int)) = false := decide_eq_false (by omega)
    have hn2 : n ≤ 64 := by omega
    go_enter Try.func5, Try.ntmps5
    go_wp2_with fail
    refine (lives_calls _).mono ?_
    rintro e1 w1 ⟨rfl, b1⟩
    have B1 := Lib.hid b1
    have s1 := b1.size
    clear b1
    go_wp2_with fail
    refine (Mdl.New_yes n hn1 hn2 _).mono ?_
    rintro e2 w2 ⟨m, h, rfl, hm, hh, i2, b2⟩
    have I2 := Lib.hid i2
    have lm2 := i2.blk.lt
    have lh2 := i2.row.lt
    have B2 : Hid (Below W.heap.size W w2) := Lib.hid (B1.out.trans (b2.mono s1))
    have s2 := b2.size
    clear i2 b2 B1
    go_wp2_with fail
    refine (Mdl.RNew_yes n hn1 hn2 _).mono ?_
    rintro e3 w3 ⟨rm, rh, capr, rfl, hrm, hrh, i3, b3⟩
    have I3 := Lib.hid i3
    have lm3 := i3.blk.lt
    have lh3 := i3.row.lt
    have J3 : Hid (Mdl.Is w3 m h n (List.replicate n 1) false) := Lib.hid (I2.out.only (Only.of_below b3 : Only (fun _ => False) _ _) (fun x => x) (fun x => x))
    have B3 : Hid (Below W.heap.size W w3) := Lib.hid (B2.out.trans (b3.mono (by omega)))
    have s3 := b3.size
    clear i3 b3 B2 I2
    have S0 := Lib.hid (Sl.empty w3 5 .u8)
    have SB3 : Hid (Src (w3.alloc (.cells #[] 5)) .u8 (.slice a0 bs.length cap0) bs) := Lib.hid (Src.below SB.out (B3.out.alloc (by omega) _))
    go_wp2_with (at_builtin; refine wpList_add (.tmp 50) (.tmp 51) 35 5 .u8 0 1 rfl rfl Try.underlying35 Enc.info_u8 _ _ [] bs rfl rfl S0.out SB3.out (by simp; omega) (by simp; omega) ?_
                 intro v4 w4 hp
                 have S4 := Lib.hid hp.sl
                 have O4 := Lib.hid (Added.fresh hp).2
                 have b4 := (Added.fresh hp).1
                 have s4 := b4.size
                 have B4 : Hid (Below W.heap.size W w4) := Lib.hid (B3.out.trans (b4.mono (by omega)))
                 have J4 : Hid (Mdl.Is w4 m h n (List.replicate n 1) false) := Lib.hid (J3.out.only (Only.of_below b4 : Only (fun _ => False) _ _) (fun x => x) (fun x => x))
                 have I4 : Hid (Mdl.IsR w4 rm rh capr (List.replicate n 1) false) := Lib.hid (I3.out.only (Only.of_below b4 : Only (fun _ => False) _ _) (fun x => x) (fun x => x))
                 clear hp b4 S0 SB3
                 obtain ⟨ad4, cap4, rfl, _⟩ := S4.out.form
                 rw [List.nil_append] at S4 O4)
    refine (New_calls (Src.of_sl S4.out) BY.out).mono ?_
    rintro e5 w5 ⟨d, v5, rfl, hd, ho5, i5, b5⟩
    have D5 := Lib.hid i5
    have O5 := Lib.hid ho5
    have ld := i5.blk.lt
    have L5 : Hid (∀ g, v5.ownBlock = some g → g < w5.heap.size) := Lib.hid (fun g hg => i5.sl.lt hg)
    have s5 := b5.size
    have B5 : Hid (Below W.heap.size W w5) := Lib.hid (B4.out.trans (b5.mono (by omega)))
    have J5 : Hid (Mdl.Is w5 m h n (List.replicate n 1) false) := Lib.hid (J4.out.only (Only.of_below b5 : Only (fun _ => False) _ _) (fun x => x) (fun x => x))
    have I5 : Hid (Mdl.IsR w5 rm rh capr (List.replicate n 1) false) := Lib.hid (I4.out.only (Only.of_below b5 : Only (fun _ => False) _ _) (fun x => x) (fun x => x))
    have S5 := Lib.hid (S4.out.below b5 (fun g hg => S4.out.lt hg))
    have LO : Hid (∀ g, (Value.slice ad4 bs.length cap4).ownBlock = some g → g < w4.heap.size) := Lib.hid (fun g hg => S4.out.lt hg)
    clear i5 b5 ho5 S4 J4 I4 B4
    go_wp2_with fail
    have SB5 : Hid (Src w5 .u8 (.slice a0 bs.length cap0) bs) := Lib.hid (Src.below SB.out B5.out)
    refine (Open_calls SB5.out BY.out).mono ?_
    rintro e6 w6 ⟨rd, v6, rfl, hrd, ho6, i6, b6⟩
    have R6 := Lib.hid i6
    have O6 := Lib.hid ho6
    have s6 := b6.size
    have B6 : Hid (Below W.heap.size W w6) := Lib.hid (B5.out.trans (b6.mono (by omega)))
    have J6 : Hid (Mdl.Is w6 m h n (List.replicate n 1) false) := Lib.hid (J5.out.only (Only.of_below b6 : Only (fun _ => False) _ _) (fun x => x) (fun x => x))
    have I6 : Hid (Mdl.IsR w6 rm rh capr (List.replicate n 1) false) := Lib.hid (I5.out.only (Only.of_below b6 : Only (fun _ => False) _ _) (fun x => x) (fun x => x))
    have S6 := Lib.hid (S5.out.below b6 (fun g hg => S5.out.lt hg))
    have D6 := Lib.hid (D5.out.below b6)
    clear i6 b6 ho6 S5 J5 I5 B5 SB5 D5 J3 I3 B3
    have BB : Hid (Both W w6 m h n rm rh capr d rd v5 v6 (List.replicate n 1) (openS bs)) := Lib.hid ⟨J6.out, I6.out, D6.out, R6.out, B6.out⟩
    have hW : W.heap.size ≤ w3.heap.size := by omega
    clear J6 I6 D6 R6 B6 k1 k2
    go_wp2_with fail
    go_loopw [59] (fun u wr => ∃ (k : Nat) (ys : List Int), k ≤ bs.length ∧ u = .int .i64 (k : Int) ∧ Hid (ys.length = bs.length) ∧ Hid (Sl wr 5 .u8 (.slice ad4 bs.length cap4) ys) ∧ Hid (Both W wr m h n rm rh capr d rd v5 v6 (List.replicate n 1) (openS bs))) (fun u _ => bs.length - (intOf u).toNat)
    case atStart => exact ⟨0, bs, by omega, rfl, rfl, S6, BB⟩
    case round =>
      clear S6 BB
      obtain ⟨k, ys, hk, rfl, HY, S6, BB⟩ := hrel
      by_cases hlt : k < bs.length
      · obtain ⟨g, cp, he, hr⟩ : ∃ g cap, Value.slice ad4 bs.length cap4 = .slice (some ⟨g, 0, none⟩) ys.length cap ∧ RowI wr 5 .u8 g cap ys := by
          rcases S6.out with ⟨_, h⟩ | h
          · subst h; have := HY.out; simp at this; omega
          · exact h
        injection he with e1 e2 e3
        subst e1 e3
        have g1 := O4.out g rfl
        have g2 := LO.out g rfl
        have dk := hr.cell (i := k) (by rw [HY.out]; omega)
        have fk := hr.free k
        have HR := Lib.hid hr
        have ik : (k : Int) < (bs.length : Int) := by omega
        clear hr S6 e2
        generalize ys[k]'(by rw [HY.out]; omega) = y at *
        go_wp2
        go_roundw
        case rel =>
          refine ⟨k + 1, ys.set k (bits .xor .u8 y 255), by omega, by push_cast; rfl, Lib.hid (by rw [List.length_set]; exact HY.out), Lib.hid (.inr ⟨g, cap4, by rw [List.length_set, HY.out], HR.out.set k _⟩), Lib.hid ?_⟩
          exact BB.out.only (At.cell (At.refl g wr) k _) (fun i hi => by
              subst hi
              refine ⟨by omega, by omega, by omega, by omega, by omega, by omega, by omega, fun hh => ?_, fun hh => ?_⟩
              · have := O5.out _ hh; omega
              · have := O6.out _ hh; omega)
        case measure => simp [intOf]; omega
      · obtain rfl : k = bs.length := by omega
        clear S6 HY
        go_wp2_with fail
        go_loopw [71] (fun u wr => ∃ (k : Nat) (L : List Int) (s : DSt), k ≤ ls.length ∧ u = .int .i64 (k : Int) ∧ Hid (Both W wr m h n rm rh capr d rd v5 v6 L s) ∧ Hid (Mdl.Good L) ∧ Hid (L.length = n) ∧ Hid s.Ready ∧ s.n ≤ 4 + 4 * k ∧ Hid (s.bs = bs)) (fun u _ => ls.length - (intOf u).toNat)
        case atStart => exact ⟨0, List.replicate n 1, openS bs, by omega, rfl, BB, Mdl.good_new n hn1 hn2, List.length_replicate, open_ready bs BY.out, by rw [open_n]; omega, Lib.hid (by unfold openS; rfl)⟩
        case round =>
          clear BB
          obtain ⟨k, L, s, hk, rfl, BB, G, HLn, OK, hsn, HB⟩ := hrel
          by_cases hlt : k < ls.length
          · obtain ⟨ad, rfl, dk⟩ := (Src.below SL.out BB.out.below).cell hlt
            have hc := WL.out _ (List.getElem_mem hlt)
            have ik : (k : Int) < (ls.length : Int) := by omega
            generalize ls[k] = c at *
            have nv1 : v5.ownBlock ≠ some m := fun hh => by have := O5.out _ hh; omega
            have nv2 : v5.ownBlock ≠ some h := fun hh => by have := O5.out _ hh; omega
            have nv3 : v6.ownBlock ≠ some rm := fun hh => by have := O6.out _ hh; omega
            have nv4 : v6.ownBlock ≠ some rh := fun hh => by have := O6.out _ hh; omega
            have NV := Lib.hid (And.intro nv1 (And.intro nv2 (And.intro nv3 nv4)))
            clear nv1 nv2 nv3 nv4
            by_cases hp : c % 2 = 0
            · have hK := sym_lt (s := s) G.out
              rw [HLn.out] at hK
              have SY := Lib.hid (Symbol_yes BB.out.de OK.out (by omega) BB.out.mo G.out (by omega) (by omega) NV.out.1 NV.out.2.1)
              have SR := Lib.hid (sym_ready OK.out G.out)
              have GN := Lib.hid (G.out.next false (symK s L) (sym_lt G.out))
              have HNL : Hid ((Mdl.next false L (symK s L)).length = n) := Lib.hid (by rw [Mdl.next_len]; exact HLn.out)
              obtain ⟨K, hKe⟩ : ∃ K, symK s L = K := ⟨_, rfl⟩
              have HKe := Lib.hid hKe
              rw [hKe] at hK SY GN HNL
              clear hKe
              have iK : (K : Int) < (n : Int) := by omega
              go_wp2_with fail
              refine SY.out.mono ?_
              rintro e7 w7 ⟨rfl, de7, mo7, o7⟩
              have DE7 := Lib.hid de7
              have MO7 := Lib.hid mo7
              have RM7 : Hid (Mdl.IsR w7 rm rh capr L false) := Lib.hid (BB.out.rmo.only o7 (fun hx => by omega) (fun hx => by omega))
              have RD7 : Hid (Is w7 rd 69 .i64 s v6) := Lib.hid (BB.out.rde.only o7 (fun hx => by omega) (fun g hg hx => by have := O6.out _ hg; omega))
              have BW7 : Hid (Below W.heap.size W w7) := Lib.hid (BB.out.below.trans (o7.below BB.out.below.size (fun i hi => by omega)))
              have RY := Lib.hid (RSymbol_yes RD7.out OK.out (by omega) RM7.out G.out (by omega) (by omega) NV.out.2.2.1 NV.out.2.2.2)
              rw [HKe.out] at RY
              clear de7 mo7 o7 SY
              go_wp2_with fail
              refine RY.out.mono ?_
              rintro e8 w8 ⟨rfl, rd8, rm8, o8⟩
              have BB8 : Hid (Both W w8 m h n rm rh capr d rd v5 v6 (Mdl.next false L K) (symS s L)) := Lib.hid ⟨MO7.out.only o8 (fun hx => by omega) (fun hx => by omega), rm8, DE7.out.only o8 (fun hx => by omega) (fun g hg hx => by have := O5.out _ hg; have := L5.out _ hg; omega), rd8,
                BW7.out.trans (o8.below BW7.out.size (fun i hi => by omega))⟩
              have HK2 : Hid ((symS s L).bs = bs) := Lib.hid (SR.out.2.1.trans HB.out)
              clear rd8 rm8 o8 DE7 MO7 RM7 RD7 BW7 RY BB
              go_wp2_with fail
              go_roundw
              case rel => exact ⟨k + 1, Mdl.next false L K, symS s L, by omega, by push_cast; rfl, BB8, GN, HNL, SR.out.1, by have := SR.out.2.2.2; omega, HK2⟩
              case measure => simp [intOf]; omega
            · by_cases hw : c / 2 % 28 - 1 < 0 ∨ 24 < c / 2 % 28 - 1
              · go_wp2_with fail
                refine (Bits_bad d _ (by omega) _).mono ?_
                rintro e7 w7 ⟨rfl, he⟩
                subst w7
                obtain ⟨wd, hwd⟩ : ∃ wd, c / 2 % 28 - 1 = wd := ⟨_, rfl⟩
                simp only [hwd] at hw ⊢
                rcases (show wd < 0 ∨ ¬ wd < 0 ∧ 24 < wd by omega) with h1 | ⟨h1, h2⟩
                · clear hw
                  go_wp2_with fail
                  go_roundw
                  case rel => exact ⟨k + 1, L, s, by omega, by push_cast; rfl, BB, G, HLn, OK, by omega, HB⟩
                  case measure => simp [intOf]; omega
                · clear hw
                  go_wp2_with fail
                  go_roundw
                  case rel => exact ⟨k + 1, L, s, by omega, by push_cast; rfl, BB, G, HLn, OK, by omega, HB⟩
                  case measure => simp [intOf]; omega
              · obtain ⟨j, hj⟩ : ∃ j : Nat, c / 2 % 28 - 1 = (j : Int) := ⟨(c / 2 % 28 - 1).toNat, by omega⟩
                have hj2 : j ≤ 24 := by omega
                have SY := Lib.hid (Bits_yes BB.out.de OK.out (by omega) j hj2)
                have SR := Lib.hid (bits_ready OK.out 0 j hj2)
                have xb := bits_bd OK.out j hj2
                clear hw
                obtain ⟨X, hX⟩ : ∃ X, (bitsD s 0 j).1 = X := ⟨_, rfl⟩
                have HX := Lib.hid hX
                rw [hX] at SY xb
                clear hX
                have w1 : IntKind.i64.wrap X = X := wrapI64 (by omega) (by omega)
                go_wp2_with fail
                refine SY.out.mono ?_
                rintro e7 w7 ⟨rfl, de7, o7⟩
                have DE7 := Lib.hid de7
                have MO7 : Hid (Mdl.Is w7 m h n L false) := Lib.hid (BB.out.mo.only o7 (fun hx => by omega) (fun hx => by omega))
                have RM7 : Hid (Mdl.IsR w7 rm rh capr L false) := Lib.hid (BB.out.rmo.only o7 (fun hx => by omega) (fun hx => by omega))
                have RD7 : Hid (Is w7 rd 69 .i64 s v6) := Lib.hid (BB.out.rde.only o7 (fun hx => by omega) (fun g hg hx => by have := O6.out _ hg; omega))
                have BW7 : Hid (Below W.heap.size W w7) := Lib.hid (BB.out.below.trans (o7.below BB.out.below.size (fun i hi => by omega)))
                have RY := Lib.hid (RBits_yes RD7.out OK.out (by omega) j hj2)
                rw [HX.out] at RY
                clear de7 o7 SY
                have h1 : ¬ (j : Int) < 0 := by omega
                have h2 : ¬ (24 : Int) < (j : Int) := by omega
                go_wp2_with fail
                refine RY.out.mono ?_
                rintro e8 w8 ⟨rfl, rd8, o8⟩
                have BB8 : Hid (Both W w8 m h n rm rh capr d rd v5 v6 L (bitsD s 0 j).2) := Lib.hid ⟨MO7.out.only o8 (fun hx => by omega) (fun hx => by omega), RM7.out.only o8 (fun hx => by omega) (fun hx => by omega), DE7.out.only o8 (fun hx => by omega) (fun g hg hx => by have := O5.out _ hg; have := L5.out _ hg; omega), rd8,
                  BW7.out.trans (o8.below BW7.out.size (fun i hi => by omega))⟩
                have HK2 : Hid ((bitsD s 0 j).2.bs = bs) := Lib.hid (SR.out.2.1.trans HB.out)
                clear rd8 o8 DE7 MO7 RM7 RD7 BW7 RY BB
                go_wp2_with fail
                go_roundw
                case rel => exact ⟨k + 1, L, (bitsD s 0 j).2, by omega, by push_cast; rfl, BB8, G, HLn, SR.out.1, by have := SR.out.2.2.2; omega, HK2⟩
                case measure => simp [intOf]; omega
          · obtain rfl : k = ls.length := by omega
            have OV : Hid (∀ q, Calls Try.prog 39 #[.pointer (some ⟨d, 0, none⟩)] (wr.drewN q) fun en w' => en = .returned (.int .i64 (max ((s.n : Int) - bs.length) 0)) ∧ ∃ n, w' = (wr.drewN q).drewN n) :=
              Lib.hid (fun q => by have := Over_calls (BB.out.de.drewN q) (by rw [HB.out]; omega) (by omega); rwa [HB.out] at this)
            have d1 := BB.out.rde.blk.cell (i := 1) rfl
            have BW := Lib.hid BB.out.below
            clear BB
            have w1 : IntKind.i64.wrap ((s.n : Int) - bs.length) = (s.n : Int) - bs.length := wrapI64 (by omega) (by omega)
            go_wp2_with fail
            by_cases hm : (s.n : Int) - bs.length < 0
            · have hx : max ((s.n : Int) - bs.length) 0 = 0 := by omega
              rw [hx] at OV
              go_quiet ((go_at_call 39; exact Calls.quiet_of (OV.out _)))
              go_wp2
              go_ret
              exact ⟨rfl, pw_below_drewN BW.out nq⟩
            · have hx : max ((s.n : Int) - bs.length) 0 = (s.n : Int) - bs.length := by omega
              rw [hx] at OV
              go_quiet ((go_at_call 39; exact Calls.quiet_of (OV.out _)))
              go_wp2
              go_ret
              exact ⟨rfl, pw_below_drewN BW.out nq⟩
end Go.Proofs.Ytlbjoflmfboeeaa.Deco
