/- Texts of this session, merged. -/
import Derived.Test.YtngldpeapcbbpaaMov3
/-
  The document's sound and samples; walks. No condition but those told.
-/
set_option linter.unusedVariables false
set_option linter.unusedSimpArgs false
namespace Go.Proofs.Ytngldpeapcbbpaa.Lap
open Go.RowKit Go.Proofs.Ytngldpeapcbbpaa Go.Proofs.Ytngldpeapcbbpaa.Bnd Go.Proofs.Ytngldpeapcbbpaa.Art Go.Proofs.YtngldpeapcbbpaaW.PrintWords

attribute [local irreducible] cosv wgt qt QT risev turnv backv shapev accv prt
set_option maxHeartbeats 2000000 in
set_option maxRecDepth 100000 in
theorem rSound_long {w : World} {A0 : Option Addr} {cap0 : Nat} (sq : Src w .i64 (.slice A0 1025 cap0) QT) {A : Option Addr} {cap : Nat} {L : List Int} (src : Src w .i64 (.slice A 512 cap) L) (ul : L.length = 512) (ub : ∀ j, -33554432 ≤ L.getD j 0 ∧ L.getD j 0 < 33554432) :
    Calls Try.prog 55 #[.slice A0 1025 cap0, .slice A 512 cap, .bool false] w fun e w' => ∃ g, e = .returned (.slice (some ⟨g, 0, none⟩) 640 640) ∧ w.heap.size ≤ g ∧ RowI w' 2 .i64 g 640 (snd false L) ∧ Below w.heap.size w w' := by
  rw [show snd false L = shapev (((backv 512 1 268435456 L).drop 192).take 640) from rfl]
  have C1 := Lib.hid (rBack512 sq src ul ub)
  have SQ := Lib.hid sq
  have BB := Lib.hid (back_b512 ub)
  have BL := Lib.hid (backv_len 512 1 268435456 L)
  clear src sq ub
  go_enter Try.func55, Try.ntmps55
  go_wp2_with fail
  refine C1.out.mono ?_
  rintro e1 w1 ⟨g1, rfl, hg1, hr1, b1⟩
  have sx := Src_sub (Sl.row hr1) rfl 192 (1024 - 192) 640 (by rw [BL.out]; decide) (by decide)
  have C2 := Lib.hid (rShape (Src.below SQ.out b1) sx (by rw [List.length_take, List.length_drop, BL.out]; rfl) (by decide) (by decide) (fun j => by have := sub_bd (by decide) BB.out 192 640 j; omega))
  have B1 := Lib.hid b1
  clear sx hr1 b1
  go_wp2_with fail
  refine C2.out.mono ?_
  rintro e2 w2 ⟨g2, rfl, hg2, hr2, b2⟩
  have s1 := B1.out.size
  have R2 := Lib.hid hr2
  have B2 := Lib.hid (B1.out.trans (b2.mono s1))
  clear hr2 b2
  go_wp2_with fail
  go_ret
  exact ⟨g2, rfl, by omega, R2.out, B2.out⟩
set_option maxHeartbeats 4000000 in
set_option maxRecDepth 100000 in
theorem rSound_brief {w : World} {A0 : Option Addr} {cap0 : Nat} (sq : Src w .i64 (.slice A0 1025 cap0) QT) {A : Option Addr} {cap : Nat} {L : List Int} (src : Src w .i64 (.slice A 512 cap) L) (ul : L.length = 512) (ub : ∀ j, -33554432 ≤ L.getD j 0 ∧ L.getD j 0 < 33554432) :
    Calls Try.prog 55 #[.slice A0 1025 cap0, .slice A 512 cap, .bool true] w fun e w' => ∃ g, e = .returned (.slice (some ⟨g, 0, none⟩) 640 640) ∧ w.heap.size ≤ g ∧ RowI w' 2 .i64 g 640 (snd true L) ∧ Below w.heap.size w w' := by
  rw [snd_accv]
  have RD : Hid (∀ wr, Below w.heap.size w wr → Src wr .i64 (.slice A 512 cap) L) := Lib.hid (fun wr b => Src.below src b)
  have SQ : Hid (∀ wr, Below w.heap.size w wr → Src wr .i64 (.slice A0 1025 cap0) QT) := Lib.hid (fun wr b => Src.below sq b)
  have UL := Lib.hid ul
  have UB := Lib.hid ub
  have hm := mk64 640 (by decide)
  rw [show ((640 : Nat) : Int) = 640 from rfl] at hm
  have hm2 := mk64 128 (by decide)
  rw [show ((128 : Nat) : Int) = 128 from rfl] at hm2
  have H0 := (Hp.nil w).new_row 2 .i64 640 0 (by decide)
  rw [← accv_zero L] at H0
  have H1 := Lib.hid H0
  obtain ⟨go, hgo⟩ : ∃ go, w.heap.size = go := ⟨_, rfl⟩
  have GE : w.heap.size ≤ go := by omega
  rw [hgo] at H1
  clear src sq ul ub H0
  go_enter Try.func55, Try.ntmps55
  go_wp2_with fail
  try rw [hgo]
  clear hgo
  go_loopw [8] (fun u wr => ∃ m : Nat, m ≤ 4 ∧ u = .int .i64 (m : Int) ∧ Hid (Hp w wr [rowA 2 .i64 go 640 (accv L m)])) (fun u _ => 4 - (intOf u).toNat)
  case atStart => exact ⟨0, by omega, rfl, H1⟩
  case round =>
    clear H1
    obtain ⟨m, hm4, rfl, H⟩ := hrel
    by_cases mlt : m < 4
    · rcases (show m = 0 ∨ m = 1 ∨ m = 2 ∨ m = 3 by omega) with rfl | rfl | rfl | rfl
      · obtain ⟨fb, hfb⟩ : ∃ fb : Nat → Int, fb = fun k => L.getD (4 * k + 0) 0 := ⟨_, rfl⟩
        have EB : Hid (fillTo fb 128 128 = prt 0 L) := Lib.hid (by rw [prt_fill, hfb])
        have HB := Lib.hid hfb
        obtain ⟨gk, hgk⟩ : ∃ gk, wr.heap.size = gk := ⟨_, rfl⟩
        have H1 : Hid (Hp w (wr.alloc (.cells (madeCells #[.int .i64 0] 128) 2)) [rowA 2 .i64 gk 128 (fillTo fb 128 0), rowA 2 .i64 go 640 (accv L 0)]) := Lib.hid (by rw [fillTo_zero, ← hgk]; exact H.out.new_row 2 .i64 128 0 (by decide))
        clear hfb H
        go_wp2_with fail
        try rw [hgk]
        clear hgk
        go_loopw [10] (fun u wr => ∃ k : Nat, k ≤ 128 ∧ u = .int .i64 (k : Int) ∧ Hid (Hp w wr [rowA 2 .i64 gk 128 (fillTo fb 128 k), rowA 2 .i64 go 640 (accv L 0)])) (fun u _ => 128 - (intOf u).toNat)
        case atStart => exact ⟨0, by omega, rfl, H1⟩
        case round =>
          clear H1
          obtain ⟨k, hk, rfl, H⟩ := hrel
          by_cases hlt : k < 128
          · have ik : (k : Int) < 128 := by omega
            obtain ⟨i1, hi1⟩ : ∃ i1 : Nat, i1 = 4 * k + 0 := ⟨_, rfl⟩
            obtain ⟨ad, rfl, hc⟩ := Src.at (RD.out _ H.out.b) (j := i1) (by rw [UL.out]; omega)
            have hv : fb k = L.getD i1 0 := by rw [HB.out, hi1]
            rw [← hv] at hc
            have fr := H.out.row.free k
            have fc := H.out.row.cell (i := k) (by rw [fillTo_len]; omega)
            rw [fillTo_at] at fc
            have hs := H.out.set k (fb k)
            rw [fillTo_set] at hs
            have HS := Lib.hid hs
            have e0 : IntKind.i64.wrap (4 * (k : Int)) = (i1 : Int) := by rw [wrapI64 (by omega) (by omega)]; omega
            have e1 : IntKind.i64.wrap (i1 : Int) = (i1 : Int) := wrapI64 (by omega) (by omega)
            have i2 : (i1 : Int) < 512 := by omega
            have i3 : i1 < 512 := by omega
            clear hs hv
            have HI := Lib.hid hi1
            clear hi1
            go_wp2_with fail
            go_roundw
            case rel => exact ⟨k + 1, by omega, by go_num, HS⟩
            case measure => simp [intOf]; omega
          · obtain rfl : k = 128 := by omega
            rw [EB.out] at H
            have pl : (prt 0 L).length = 128 := by rw [← EB.out, fillTo_len]
            have sx := Src.of_sl (Sl.row H.out.row)
            rw [pl] at sx
            have C1 := Lib.hid (rBack128 (SQ.out _ H.out.b) sx pl (prt_b UB.out 0))
            clear sx pl
            go_wp2_with fail
            refine C1.out.mono ?_
            rintro e1 w1 ⟨gb, rfl, hgb, hr1, b1⟩
            have H2 := Lib.hid ((H.out.add_row b1 hr1 hgb).up1.drop)
            have bb := back_b128 (prt_b UB.out 0)
            clear hr1 b1 hgb H EB HB C1
            have bl : (backv 128 4 134217728 (prt 0 L)).length = 256 := backv_len _ _ _ _
            have eS : shapev (backv 128 4 134217728 (prt 0 L)) = prtS 0 L := rfl
            have sx := Src.of_sl (Sl.row H2.out.row)
            rw [bl] at sx
            have C2 := Lib.hid (rShape (SQ.out _ H2.out.b) sx bl (by decide) (by decide) (fun j => by have := bb j; omega))
            rw [eS] at C2
            clear bb eS bl sx
            go_wp2_with fail
            refine C2.out.mono ?_
            rintro e2 w2 ⟨gs, rfl, hgs, hr2, b2⟩
            have H3 := Lib.hid ((H2.out.add_row b2 hr2 hgs).up1.drop.up1)
            clear hr2 b2 hgs H2 C2
            rw [← mix_first L 0] at H3
            have SL : Hid ((prtS 0 L).length = 256) := Lib.hid (prtS_len _ _)
            have SB := Lib.hid (prtS_b UB.out 0)
            have AO : Hid (∀ i, i < 256 → acc L (1) (0 + i) = acc L 0 (0 + i) + (prtS 0 L).getD i 0) := Lib.hid (fun i hi => acc_on (L := L) (m := 0) hi)
            have AB := Lib.hid (acc_b UB.out 0)
            obtain ⟨Sx, hS⟩ : ∃ Sx, prtS 0 L = Sx := ⟨_, rfl⟩
            rw [hS] at SL SB AO H3
            clear hS
            rw [show 128 * 0 = 0 from rfl] at H3
            go_wp2_with fail
            go_loopw [12] (fun u wr => ∃ k : Nat, k ≤ 256 ∧ u = .int .i64 (k : Int) ∧ Hid (Hp w wr [rowA 2 .i64 go 640 (mixTo (acc L (1)) (acc L 0) 640 (0 + k)), rowA 2 .i64 gs 256 Sx])) (fun u _ => 256 - (intOf u).toNat)
            case atStart => exact ⟨0, by omega, rfl, H3⟩
            case round =>
              clear H3
              obtain ⟨k, hk, rfl, H⟩ := hrel
              by_cases hlt : k < 256
              · have ik : (k : Int) < 256 := by omega
                have sc := H.out.up1.row.cell (i := k) (by rw [SL.out]; exact hlt)
                have sg : Sx[k]'(by rw [SL.out]; exact hlt) = Sx.getD k 0 := by rw [List.getD_eq_getElem?_getD, List.getElem?_eq_getElem (by rw [SL.out]; exact hlt), Option.getD_some]
                rw [sg] at sc
                have sb := SB.out k
                have ao := AO.out k hlt
                obtain ⟨i1, hi1⟩ : ∃ i1 : Nat, i1 = 0 + k := ⟨_, rfl⟩
                rw [← hi1] at H ao
                have ab := AB.out i1
                have fr := H.out.row.free i1
                have fc := H.out.row.cell (i := i1) (by rw [mix_len]; omega)
                rw [mix_at, if_neg (Nat.lt_irrefl _)] at fc
                have hs := (H.out.drewN 1).set i1 (acc L (1) i1)
                rw [mix_set, ao] at hs
                have HS := Lib.hid hs
                obtain ⟨x, hx⟩ : ∃ x, Sx.getD k 0 = x := ⟨_, rfl⟩
                obtain ⟨y, hy⟩ : ∃ y, acc L 0 i1 = y := ⟨_, rfl⟩
                rw [hx] at sc sb HS
                rw [hy] at fc ab HS
                have e0 : IntKind.i64.wrap (128 * 0) = 0 := by decide
                have e00 : IntKind.i64.wrap 0 = 0 := by decide
                have e1 : IntKind.i64.wrap (0 + (k : Int)) = (i1 : Int) := by rw [wrapI64 (by omega) (by omega)]; omega
                have e11 : IntKind.i64.wrap (k : Int) = (i1 : Int) := by rw [wrapI64 (by omega) (by omega)]; omega
                have e2 : IntKind.i64.wrap (y + x) = y + x := wrapI64 (by omega) (by omega)
                have i2 : (i1 : Int) < 640 := by omega
                have i3 : i1 < 640 := by omega
                have HI := Lib.hid hi1
                clear hs hx hy sg ao hi1
                go_upto_region 16 with fail
                go_still_tail 17, (by kernel_rfl)
                go_wp2
                go_roundw
                case rel => exact ⟨k + 1, by omega, by go_num, by rw [show 0 + (k + 1) = i1 + 1 by have := HI.out; omega]; exact HS⟩
                case measure => simp [intOf]; omega
              · obtain rfl : k = 256 := by omega
                have H4 : Hid (Hp w wr [rowA 2 .i64 go 640 (accv L (1))]) := Lib.hid (Hp.blkrow (H.out.up1.drop) (mix_last L 0))
                clear H SL SB AO AB
                go_wp2_with fail
                go_roundw
                case rel => exact ⟨1, by omega, by go_num, H4⟩
                case measure => simp [intOf]
      · obtain ⟨fb, hfb⟩ : ∃ fb : Nat → Int, fb = fun k => L.getD (4 * k + 1) 0 := ⟨_, rfl⟩
        have EB : Hid (fillTo fb 128 128 = prt 1 L) := Lib.hid (by rw [prt_fill, hfb])
        have HB := Lib.hid hfb
        obtain ⟨gk, hgk⟩ : ∃ gk, wr.heap.size = gk := ⟨_, rfl⟩
        have H1 : Hid (Hp w (wr.alloc (.cells (madeCells #[.int .i64 0] 128) 2)) [rowA 2 .i64 gk 128 (fillTo fb 128 0), rowA 2 .i64 go 640 (accv L 1)]) := Lib.hid (by rw [fillTo_zero, ← hgk]; exact H.out.new_row 2 .i64 128 0 (by decide))
        clear hfb H
        go_wp2_with fail
        try rw [hgk]
        clear hgk
        go_loopw [10] (fun u wr => ∃ k : Nat, k ≤ 128 ∧ u = .int .i64 (k : Int) ∧ Hid (Hp w wr [rowA 2 .i64 gk 128 (fillTo fb 128 k), rowA 2 .i64 go 640 (accv L 1)])) (fun u _ => 128 - (intOf u).toNat)
        case atStart => exact ⟨0, by omega, rfl, H1⟩
        case round =>
          clear H1
          obtain ⟨k, hk, rfl, H⟩ := hrel
          by_cases hlt : k < 128
          · have ik : (k : Int) < 128 := by omega
            obtain ⟨i1, hi1⟩ : ∃ i1 : Nat, i1 = 4 * k + 1 := ⟨_, rfl⟩
            obtain ⟨ad, rfl, hc⟩ := Src.at (RD.out _ H.out.b) (j := i1) (by rw [UL.out]; omega)
            have hv : fb k = L.getD i1 0 := by rw [HB.out, hi1]
            rw [← hv] at hc
            have fr := H.out.row.free k
            have fc := H.out.row.cell (i := k) (by rw [fillTo_len]; omega)
            rw [fillTo_at] at fc
            have hs := H.out.set k (fb k)
            rw [fillTo_set] at hs
            have HS := Lib.hid hs
            have e0 : IntKind.i64.wrap (4 * (k : Int)) = 4 * k := wrapI64 (by omega) (by omega)
            have e1 : IntKind.i64.wrap (4 * (k : Int) + 1) = (i1 : Int) := by rw [wrapI64 (by omega) (by omega)]; omega
            have i2 : (i1 : Int) < 512 := by omega
            have i3 : i1 < 512 := by omega
            clear hs hv
            have HI := Lib.hid hi1
            clear hi1
            go_wp2_with fail
            go_roundw
            case rel => exact ⟨k + 1, by omega, by go_num, HS⟩
            case measure => simp [intOf]; omega
          · obtain rfl : k = 128 := by omega
            rw [EB.out] at H
            have pl : (prt 1 L).length = 128 := by rw [← EB.out, fillTo_len]
            have sx := Src.of_sl (Sl.row H.out.row)
            rw [pl] at sx
            have C1 := Lib.hid (rBack128 (SQ.out _ H.out.b) sx pl (prt_b UB.out 1))
            clear sx pl
            go_wp2_with fail
            refine C1.out.mono ?_
            rintro e1 w1 ⟨gb, rfl, hgb, hr1, b1⟩
            have H2 := Lib.hid ((H.out.add_row b1 hr1 hgb).up1.drop)
            have bb := back_b128 (prt_b UB.out 1)
            clear hr1 b1 hgb H EB HB C1
            have bl : (backv 128 4 134217728 (prt 1 L)).length = 256 := backv_len _ _ _ _
            have eS : shapev (backv 128 4 134217728 (prt 1 L)) = prtS 1 L := rfl
            have sx := Src.of_sl (Sl.row H2.out.row)
            rw [bl] at sx
            have C2 := Lib.hid (rShape (SQ.out _ H2.out.b) sx bl (by decide) (by decide) (fun j => by have := bb j; omega))
            rw [eS] at C2
            clear bb eS bl sx
            go_wp2_with fail
            refine C2.out.mono ?_
            rintro e2 w2 ⟨gs, rfl, hgs, hr2, b2⟩
            have H3 := Lib.hid ((H2.out.add_row b2 hr2 hgs).up1.drop.up1)
            clear hr2 b2 hgs H2 C2
            rw [← mix_first L 1] at H3
            have SL : Hid ((prtS 1 L).length = 256) := Lib.hid (prtS_len _ _)
            have SB := Lib.hid (prtS_b UB.out 1)
            have AO : Hid (∀ i, i < 256 → acc L (2) (128 + i) = acc L 1 (128 + i) + (prtS 1 L).getD i 0) := Lib.hid (fun i hi => acc_on (L := L) (m := 1) hi)
            have AB := Lib.hid (acc_b UB.out 1)
            obtain ⟨Sx, hS⟩ : ∃ Sx, prtS 1 L = Sx := ⟨_, rfl⟩
            rw [hS] at SL SB AO H3
            clear hS
            rw [show 128 * 1 = 128 from rfl] at H3
            go_wp2_with fail
            go_loopw [12] (fun u wr => ∃ k : Nat, k ≤ 256 ∧ u = .int .i64 (k : Int) ∧ Hid (Hp w wr [rowA 2 .i64 go 640 (mixTo (acc L (2)) (acc L 1) 640 (128 + k)), rowA 2 .i64 gs 256 Sx])) (fun u _ => 256 - (intOf u).toNat)
            case atStart => exact ⟨0, by omega, rfl, H3⟩
            case round =>
              clear H3
              obtain ⟨k, hk, rfl, H⟩ := hrel
              by_cases hlt : k < 256
              · have ik : (k : Int) < 256 := by omega
                have sc := H.out.up1.row.cell (i := k) (by rw [SL.out]; exact hlt)
                have sg : Sx[k]'(by rw [SL.out]; exact hlt) = Sx.getD k 0 := by rw [List.getD_eq_getElem?_getD, List.getElem?_eq_getElem (by rw [SL.out]; exact hlt), Option.getD_some]
                rw [sg] at sc
                have sb := SB.out k
                have ao := AO.out k hlt
                obtain ⟨i1, hi1⟩ : ∃ i1 : Nat, i1 = 128 + k := ⟨_, rfl⟩
                rw [← hi1] at H ao
                have ab := AB.out i1
                have fr := H.out.row.free i1
                have fc := H.out.row.cell (i := i1) (by rw [mix_len]; omega)
                rw [mix_at, if_neg (Nat.lt_irrefl _)] at fc
                have hs := (H.out.drewN 1).set i1 (acc L (2) i1)
                rw [mix_set, ao] at hs
                have HS := Lib.hid hs
                obtain ⟨x, hx⟩ : ∃ x, Sx.getD k 0 = x := ⟨_, rfl⟩
                obtain ⟨y, hy⟩ : ∃ y, acc L 1 i1 = y := ⟨_, rfl⟩
                rw [hx] at sc sb HS
                rw [hy] at fc ab HS
                have e0 : IntKind.i64.wrap (128 * 1) = 128 := by decide
                have e00 : IntKind.i64.wrap 128 = 128 := by decide
                have e1 : IntKind.i64.wrap (128 + (k : Int)) = (i1 : Int) := by rw [wrapI64 (by omega) (by omega)]; omega
                have e2 : IntKind.i64.wrap (y + x) = y + x := wrapI64 (by omega) (by omega)
                have i2 : (i1 : Int) < 640 := by omega
                have i3 : i1 < 640 := by omega
                have HI := Lib.hid hi1
                clear hs hx hy sg ao hi1
                go_upto_region 16 with fail
                go_still_tail 17, (by kernel_rfl)
                go_wp2
                go_roundw
                case rel => exact ⟨k + 1, by omega, by go_num, by rw [show 128 + (k + 1) = i1 + 1 by have := HI.out; omega]; exact HS⟩
                case measure => simp [intOf]; omega
              · obtain rfl : k = 256 := by omega
                have H4 : Hid (Hp w wr [rowA 2 .i64 go 640 (accv L (2))]) := Lib.hid (Hp.blkrow (H.out.up1.drop) (mix_last L 1))
                clear H SL SB AO AB
                go_wp2_with fail
                go_roundw
                case rel => exact ⟨2, by omega, by go_num, H4⟩
                case measure => simp [intOf]
      · obtain ⟨fb, hfb⟩ : ∃ fb : Nat → Int, fb = fun k => L.getD (4 * k + 2) 0 := ⟨_, rfl⟩
        have EB : Hid (fillTo fb 128 128 = prt 2 L) := Lib.hid (by rw [prt_fill, hfb])
        have HB := Lib.hid hfb
        obtain ⟨gk, hgk⟩ : ∃ gk, wr.heap.size = gk := ⟨_, rfl⟩
        have H1 : Hid (Hp w (wr.alloc (.cells (madeCells #[.int .i64 0] 128) 2)) [rowA 2 .i64 gk 128 (fillTo fb 128 0), rowA 2 .i64 go 640 (accv L 2)]) := Lib.hid (by rw [fillTo_zero, ← hgk]; exact H.out.new_row 2 .i64 128 0 (by decide))
        clear hfb H
        go_wp2_with fail
        try rw [hgk]
        clear hgk
        go_loopw [10] (fun u wr => ∃ k : Nat, k ≤ 128 ∧ u = .int .i64 (k : Int) ∧ Hid (Hp w wr [rowA 2 .i64 gk 128 (fillTo fb 128 k), rowA 2 .i64 go 640 (accv L 2)])) (fun u _ => 128 - (intOf u).toNat)
        case atStart => exact ⟨0, by omega, rfl, H1⟩
        case round =>
          clear H1
          obtain ⟨k, hk, rfl, H⟩ := hrel
          by_cases hlt : k < 128
          · have ik : (k : Int) < 128 := by omega
            obtain ⟨i1, hi1⟩ : ∃ i1 : Nat, i1 = 4 * k + 2 := ⟨_, rfl⟩
            obtain ⟨ad, rfl, hc⟩ := Src.at (RD.out _ H.out.b) (j := i1) (by rw [UL.out]; omega)
            have hv : fb k = L.getD i1 0 := by rw [HB.out, hi1]
            rw [← hv] at hc
            have fr := H.out.row.free k
            have fc := H.out.row.cell (i := k) (by rw [fillTo_len]; omega)
            rw [fillTo_at] at fc
            have hs := H.out.set k (fb k)
            rw [fillTo_set] at hs
            have HS := Lib.hid hs
            have e0 : IntKind.i64.wrap (4 * (k : Int)) = 4 * k := wrapI64 (by omega) (by omega)
            have e1 : IntKind.i64.wrap (4 * (k : Int) + 2) = (i1 : Int) := by rw [wrapI64 (by omega) (by omega)]; omega
            have i2 : (i1 : Int) < 512 := by omega
            have i3 : i1 < 512 := by omega
            clear hs hv
            have HI := Lib.hid hi1
            clear hi1
            go_wp2_with fail
            go_roundw
            case rel => exact ⟨k + 1, by omega, by go_num, HS⟩
            case measure => simp [intOf]; omega
          · obtain rfl : k = 128 := by omega
            rw [EB.out] at H
            have pl : (prt 2 L).length = 128 := by rw [← EB.out, fillTo_len]
            have sx := Src.of_sl (Sl.row H.out.row)
            rw [pl] at sx
            have C1 := Lib.hid (rBack128 (SQ.out _ H.out.b) sx pl (prt_b UB.out 2))
            clear sx pl
            go_wp2_with fail
            refine C1.out.mono ?_
            rintro e1 w1 ⟨gb, rfl, hgb, hr1, b1⟩
            have H2 := Lib.hid ((H.out.add_row b1 hr1 hgb).up1.drop)
            have bb := back_b128 (prt_b UB.out 2)
            clear hr1 b1 hgb H EB HB C1
            have bl : (backv 128 4 134217728 (prt 2 L)).length = 256 := backv_len _ _ _ _
            have eS : shapev (backv 128 4 134217728 (prt 2 L)) = prtS 2 L := rfl
            have sx := Src.of_sl (Sl.row H2.out.row)
            rw [bl] at sx
            have C2 := Lib.hid (rShape (SQ.out _ H2.out.b) sx bl (by decide) (by decide) (fun j => by have := bb j; omega))
            rw [eS] at C2
            clear bb eS bl sx
            go_wp2_with fail
            refine C2.out.mono ?_
            rintro e2 w2 ⟨gs, rfl, hgs, hr2, b2⟩
            have H3 := Lib.hid ((H2.out.add_row b2 hr2 hgs).up1.drop.up1)
            clear hr2 b2 hgs H2 C2
            rw [← mix_first L 2] at H3
            have SL : Hid ((prtS 2 L).length = 256) := Lib.hid (prtS_len _ _)
            have SB := Lib.hid (prtS_b UB.out 2)
            have AO : Hid (∀ i, i < 256 → acc L (3) (256 + i) = acc L 2 (256 + i) + (prtS 2 L).getD i 0) := Lib.hid (fun i hi => acc_on (L := L) (m := 2) hi)
            have AB := Lib.hid (acc_b UB.out 2)
            obtain ⟨Sx, hS⟩ : ∃ Sx, prtS 2 L = Sx := ⟨_, rfl⟩
            rw [hS] at SL SB AO H3
            clear hS
            rw [show 128 * 2 = 256 from rfl] at H3
            go_wp2_with fail
            go_loopw [12] (fun u wr => ∃ k : Nat, k ≤ 256 ∧ u = .int .i64 (k : Int) ∧ Hid (Hp w wr [rowA 2 .i64 go 640 (mixTo (acc L (3)) (acc L 2) 640 (256 + k)), rowA 2 .i64 gs 256 Sx])) (fun u _ => 256 - (intOf u).toNat)
            case atStart => exact ⟨0, by omega, rfl, H3⟩
            case round =>
              clear H3
              obtain ⟨k, hk, rfl, H⟩ := hrel
              by_cases hlt : k < 256
              · have ik : (k : Int) < 256 := by omega
                have sc := H.out.up1.row.cell (i := k) (by rw [SL.out]; exact hlt)
                have sg : Sx[k]'(by rw [SL.out]; exact hlt) = Sx.getD k 0 := by rw [List.getD_eq_getElem?_getD, List.getElem?_eq_getElem (by rw [SL.out]; exact hlt), Option.getD_some]
                rw [sg] at sc
                have sb := SB.out k
                have ao := AO.out k hlt
                obtain ⟨i1, hi1⟩ : ∃ i1 : Nat, i1 = 256 + k := ⟨_, rfl⟩
                rw [← hi1] at H ao
                have ab := AB.out i1
                have fr := H.out.row.free i1
                have fc := H.out.row.cell (i := i1) (by rw [mix_len]; omega)
                rw [mix_at, if_neg (Nat.lt_irrefl _)] at fc
                have hs := (H.out.drewN 1).set i1 (acc L (3) i1)
                rw [mix_set, ao] at hs
                have HS := Lib.hid hs
                obtain ⟨x, hx⟩ : ∃ x, Sx.getD k 0 = x := ⟨_, rfl⟩
                obtain ⟨y, hy⟩ : ∃ y, acc L 2 i1 = y := ⟨_, rfl⟩
                rw [hx] at sc sb HS
                rw [hy] at fc ab HS
                have e0 : IntKind.i64.wrap (128 * 2) = 256 := by decide
                have e00 : IntKind.i64.wrap 256 = 256 := by decide
                have e1 : IntKind.i64.wrap (256 + (k : Int)) = (i1 : Int) := by rw [wrapI64 (by omega) (by omega)]; omega
                have e2 : IntKind.i64.wrap (y + x) = y + x := wrapI64 (by omega) (by omega)
                have i2 : (i1 : Int) < 640 := by omega
                have i3 : i1 < 640 := by omega
                have HI := Lib.hid hi1
                clear hs hx hy sg ao hi1
                go_upto_region 16 with fail
                go_still_tail 17, (by kernel_rfl)
                go_wp2
                go_roundw
                case rel => exact ⟨k + 1, by omega, by go_num, by rw [show 256 + (k + 1) = i1 + 1 by have := HI.out; omega]; exact HS⟩
                case measure => simp [intOf]; omega
              · obtain rfl : k = 256 := by omega
                have H4 : Hid (Hp w wr [rowA 2 .i64 go 640 (accv L (3))]) := Lib.hid (Hp.blkrow (H.out.up1.drop) (mix_last L 2))
                clear H SL SB AO AB
                go_wp2_with fail
                go_roundw
                case rel => exact ⟨3, by omega, by go_num, H4⟩
                case measure => simp [intOf]
      · obtain ⟨fb, hfb⟩ : ∃ fb : Nat → Int, fb = fun k => L.getD (4 * k + 3) 0 := ⟨_, rfl⟩
        have EB : Hid (fillTo fb 128 128 = prt 3 L) := Lib.hid (by rw [prt_fill, hfb])
        have HB := Lib.hid hfb
        obtain ⟨gk, hgk⟩ : ∃ gk, wr.heap.size = gk := ⟨_, rfl⟩
        have H1 : Hid (Hp w (wr.alloc (.cells (madeCells #[.int .i64 0] 128) 2)) [rowA 2 .i64 gk 128 (fillTo fb 128 0), rowA 2 .i64 go 640 (accv L 3)]) := Lib.hid (by rw [fillTo_zero, ← hgk]; exact H.out.new_row 2 .i64 128 0 (by decide))
        clear hfb H
        go_wp2_with fail
        try rw [hgk]
        clear hgk
        go_loopw [10] (fun u wr => ∃ k : Nat, k ≤ 128 ∧ u = .int .i64 (k : Int) ∧ Hid (Hp w wr [rowA 2 .i64 gk 128 (fillTo fb 128 k), rowA 2 .i64 go 640 (accv L 3)])) (fun u _ => 128 - (intOf u).toNat)
        case atStart => exact ⟨0, by omega, rfl, H1⟩
        case round =>
          clear H1
          obtain ⟨k, hk, rfl, H⟩ := hrel
          by_cases hlt : k < 128
          · have ik : (k : Int) < 128 := by omega
            obtain ⟨i1, hi1⟩ : ∃ i1 : Nat, i1 = 4 * k + 3 := ⟨_, rfl⟩
            obtain ⟨ad, rfl, hc⟩ := Src.at (RD.out _ H.out.b) (j := i1) (by rw [UL.out]; omega)
            have hv : fb k = L.getD i1 0 := by rw [HB.out, hi1]
            rw [← hv] at hc
            have fr := H.out.row.free k
            have fc := H.out.row.cell (i := k) (by rw [fillTo_len]; omega)
            rw [fillTo_at] at fc
            have hs := H.out.set k (fb k)
            rw [fillTo_set] at hs
            have HS := Lib.hid hs
            have e0 : IntKind.i64.wrap (4 * (k : Int)) = 4 * k := wrapI64 (by omega) (by omega)
            have e1 : IntKind.i64.wrap (4 * (k : Int) + 3) = (i1 : Int) := by rw [wrapI64 (by omega) (by omega)]; omega
            have i2 : (i1 : Int) < 512 := by omega
            have i3 : i1 < 512 := by omega
            clear hs hv
            have HI := Lib.hid hi1
            clear hi1
            go_wp2_with fail
            go_roundw
            case rel => exact ⟨k + 1, by omega, by go_num, HS⟩
            case measure => simp [intOf]; omega
          · obtain rfl : k = 128 := by omega
            rw [EB.out] at H
            have pl : (prt 3 L).length = 128 := by rw [← EB.out, fillTo_len]
            have sx := Src.of_sl (Sl.row H.out.row)
            rw [pl] at sx
            have C1 := Lib.hid (rBack128 (SQ.out _ H.out.b) sx pl (prt_b UB.out 3))
            clear sx pl
            go_wp2_with fail
            refine C1.out.mono ?_
            rintro e1 w1 ⟨gb, rfl, hgb, hr1, b1⟩
            have H2 := Lib.hid ((H.out.add_row b1 hr1 hgb).up1.drop)
            have bb := back_b128 (prt_b UB.out 3)
            clear hr1 b1 hgb H EB HB C1
            have bl : (backv 128 4 134217728 (prt 3 L)).length = 256 := backv_len _ _ _ _
            have eS : shapev (backv 128 4 134217728 (prt 3 L)) = prtS 3 L := rfl
            have sx := Src.of_sl (Sl.row H2.out.row)
            rw [bl] at sx
            have C2 := Lib.hid (rShape (SQ.out _ H2.out.b) sx bl (by decide) (by decide) (fun j => by have := bb j; omega))
            rw [eS] at C2
            clear bb eS bl sx
            go_wp2_with fail
            refine C2.out.mono ?_
            rintro e2 w2 ⟨gs, rfl, hgs, hr2, b2⟩
            have H3 := Lib.hid ((H2.out.add_row b2 hr2 hgs).up1.drop.up1)
            clear hr2 b2 hgs H2 C2
            rw [← mix_first L 3] at H3
            have SL : Hid ((prtS 3 L).length = 256) := Lib.hid (prtS_len _ _)
            have SB := Lib.hid (prtS_b UB.out 3)
            have AO : Hid (∀ i, i < 256 → acc L (4) (384 + i) = acc L 3 (384 + i) + (prtS 3 L).getD i 0) := Lib.hid (fun i hi => acc_on (L := L) (m := 3) hi)
            have AB := Lib.hid (acc_b UB.out 3)
            obtain ⟨Sx, hS⟩ : ∃ Sx, prtS 3 L = Sx := ⟨_, rfl⟩
            rw [hS] at SL SB AO H3
            clear hS
            rw [show 128 * 3 = 384 from rfl] at H3
            go_wp2_with fail
            go_loopw [12] (fun u wr => ∃ k : Nat, k ≤ 256 ∧ u = .int .i64 (k : Int) ∧ Hid (Hp w wr [rowA 2 .i64 go 640 (mixTo (acc L (4)) (acc L 3) 640 (384 + k)), rowA 2 .i64 gs 256 Sx])) (fun u _ => 256 - (intOf u).toNat)
            case atStart => exact ⟨0, by omega, rfl, H3⟩
            case round =>
              clear H3
              obtain ⟨k, hk, rfl, H⟩ := hrel
              by_cases hlt : k < 256
              · have ik : (k : Int) < 256 := by omega
                have sc := H.out.up1.row.cell (i := k) (by rw [SL.out]; exact hlt)
                have sg : Sx[k]'(by rw [SL.out]; exact hlt) = Sx.getD k 0 := by rw [List.getD_eq_getElem?_getD, List.getElem?_eq_getElem (by rw [SL.out]; exact hlt), Option.getD_some]
                rw [sg] at sc
                have sb := SB.out k
                have ao := AO.out k hlt
                obtain ⟨i1, hi1⟩ : ∃ i1 : Nat, i1 = 384 + k := ⟨_, rfl⟩
                rw [← hi1] at H ao
                have ab := AB.out i1
                have fr := H.out.row.free i1
                have fc := H.out.row.cell (i := i1) (by rw [mix_len]; omega)
                rw [mix_at, if_neg (Nat.lt_irrefl _)] at fc
                have hs := (H.out.drewN 1).set i1 (acc L (4) i1)
                rw [mix_set, ao] at hs
                have HS := Lib.hid hs
                obtain ⟨x, hx⟩ : ∃ x, Sx.getD k 0 = x := ⟨_, rfl⟩
                obtain ⟨y, hy⟩ : ∃ y, acc L 3 i1 = y := ⟨_, rfl⟩
                rw [hx] at sc sb HS
                rw [hy] at fc ab HS
                have e0 : IntKind.i64.wrap (128 * 3) = 384 := by decide
                have e00 : IntKind.i64.wrap 384 = 384 := by decide
                have e1 : IntKind.i64.wrap (384 + (k : Int)) = (i1 : Int) := by rw [wrapI64 (by omega) (by omega)]; omega
                have e2 : IntKind.i64.wrap (y + x) = y + x := wrapI64 (by omega) (by omega)
                have i2 : (i1 : Int) < 640 := by omega
                have i3 : i1 < 640 := by omega
                have HI := Lib.hid hi1
                clear hs hx hy sg ao hi1
                go_upto_region 16 with fail
                go_still_tail 17, (by kernel_rfl)
                go_wp2
                go_roundw
                case rel => exact ⟨k + 1, by omega, by go_num, by rw [show 384 + (k + 1) = i1 + 1 by have := HI.out; omega]; exact HS⟩
                case measure => simp [intOf]; omega
              · obtain rfl : k = 256 := by omega
                have H4 : Hid (Hp w wr [rowA 2 .i64 go 640 (accv L (4))]) := Lib.hid (Hp.blkrow (H.out.up1.drop) (mix_last L 3))
                clear H SL SB AO AB
                go_wp2_with fail
                go_roundw
                case rel => exact ⟨4, by omega, by go_num, H4⟩
                case measure => simp [intOf]
    · obtain rfl : m = 4 := by omega
      go_wp2_with fail
      go_ret
      exact ⟨_, rfl, GE, H.out.row, H.out.b⟩
theorem rSound {w : World} {A0 : Option Addr} {cap0 : Nat} (sq : Src w .i64 (.slice A0 1025 cap0) QT) {A : Option Addr} {cap : Nat} {L : List Int} (src : Src w .i64 (.slice A 512 cap) L) (ul : L.length = 512) (ub : ∀ j, -33554432 ≤ L.getD j 0 ∧ L.getD j 0 < 33554432) (b : Bool) :
    Calls Try.prog 55 #[.slice A0 1025 cap0, .slice A 512 cap, .bool b] w fun e w' => ∃ g, e = .returned (.slice (some ⟨g, 0, none⟩) 640 640) ∧ w.heap.size ≤ g ∧ RowI w' 2 .i64 g 640 (snd b L) ∧ Below w.heap.size w w' := by
  cases b
  · exact rSound_long sq src ul ub
  · exact rSound_brief sq src ul ub
attribute [local irreducible] snd
theorem out_succ (f : Nat → Int) (k : Nat) : (List.range (k + 1)).map f = (List.range k).map f ++ [f k] := by rw [List.range_succ, List.map_append]; rfl
set_option maxHeartbeats 4000000 in
set_option maxRecDepth 100000 in
theorem rSamples {w : World} {A0 : Option Addr} {cap0 : Nat} (sq : Src w .i64 (.slice A0 1025 cap0) QT) {A : Option Addr} {cap : Nat} {L : List Int} (src : Src w .i64 (.slice A 512 cap) L) (ul : L.length = 512) (ub : ∀ j, -33554432 ≤ L.getD j 0 ∧ L.getD j 0 < 33554432) (b : Bool)
    {B : Option Addr} {capB : Nat} {left : List Int} (srcL : Src w .i64 (.slice B 128 capB) left) (tl : left.length = 128) (tb : ∀ j, -4294967296 ≤ left.getD j 0 ∧ left.getD j 0 ≤ 4294967296) :
    Calls Try.prog 34 #[.slice A0 1025 cap0, .slice A 512 cap, .bool b, .slice B 128 capB] w fun e w' => ∃ g v, e = .returned (.tuple #[v, .slice (some ⟨g, 512, none⟩) 128 128]) ∧ Hp w w' [slA 2 .i64 v (outv (snd b L) left), rowA 2 .i64 g 640 (sumv (snd b L) left)] := by
  have C1 := Lib.hid (rSound sq src ul ub b)
  have XB := Lib.hid (snd_b b ub)
  have XL := Lib.hid (snd_len b L)
  obtain ⟨X, hX⟩ : ∃ X, snd b L = X := ⟨_, rfl⟩
  rw [hX] at C1 XB XL ⊢
  have TL := Lib.hid tl
  have TB := Lib.hid tb
  have RL : Hid (∀ wr, Below w.heap.size w wr → Src wr .i64 (.slice B 128 capB) left) := Lib.hid (fun wr b => Src.below srcL b)
  obtain ⟨fo, hfo⟩ : ∃ fo : Nat → Int, fo = fun i => clampv (-32768) 32767 (rdv 16 (sumAt X left i)) := ⟨_, rfl⟩
  rw [show outv X left = (List.range 512).map fo by rw [hfo]; rfl]
  have FO : Hid (∀ i, fo i = clampv (-32768) 32767 (rdv 16 (sumAt X left i))) := Lib.hid (by rw [hfo]; intro i; rfl)
  have SB := Lib.hid (sum_b XB.out TB.out)
  have SL : Hid ((sumv X left).length = 640) := Lib.hid (by simp [sumv])
  have SA : Hid (∀ i (h : i < (sumv X left).length), (sumv X left)[i] = sumAt X left i) := Lib.hid (fun i h => by simp [sumv])
  have SM := Lib.hid (sumv_mix X left)
  obtain ⟨Sx, hS⟩ : ∃ Sx, sumv X left = Sx := ⟨_, rfl⟩
  rw [hS] at SL SM ⊢
  have SA' : Hid (∀ i (h : i < Sx.length), Sx[i] = sumAt X left i) := Lib.hid (by rw [← hS]; exact SA.out)
  clear sq src ul ub tl tb srcL hX hfo hS SA
  go_enter Try.func34, Try.ntmps34
  go_wp2_with fail
  refine C1.out.mono ?_
  rintro e1 w1 ⟨go, rfl, hgo, hr1, b1⟩
  have e0 : X = mixTo (sumAt X left) (fun i => X.getD i 0) 640 0 := by
    rw [mix_none]
    exact (fill_id X 640 XL.out).symm.trans (fillTo_all _ _)
  have H1 : Hid (Hp w w1 [rowA 2 .i64 go 640 (mixTo (sumAt X left) (fun i => X.getD i 0) 640 0)]) := Lib.hid (Hp.blkrow ((Hp.nil w).add_row b1 hr1 hgo) e0)
  clear C1 hr1 b1 e0 hgo
  go_wp2_with fail
  go_loopw [11] (fun u wr => ∃ k : Nat, k ≤ 128 ∧ u = .int .i64 (k : Int) ∧ Hid (Hp w wr [rowA 2 .i64 go 640 (mixTo (sumAt X left) (fun i => X.getD i 0) 640 k)])) (fun u _ => 128 - (intOf u).toNat)
  case atStart => exact ⟨0, by omega, rfl, H1⟩
  case round =>
    clear H1
    obtain ⟨k, hk, rfl, H⟩ := hrel
    by_cases hlt : k < 128
    · have ik : (k : Int) < 128 := by omega
      obtain ⟨ad, rfl, hc⟩ := Src.at (RL.out _ H.out.b) (j := k) (by rw [TL.out]; omega)
      have tb := TB.out k
      have xb := XB.out k
      have fr := H.out.row.free k
      have fc := H.out.row.cell (i := k) (by rw [mix_len]; omega)
      rw [mix_at, if_neg (Nat.lt_irrefl _)] at fc
      have hs := (H.out.drewN 1).set k (sumAt X left k)
      have es : sumAt X left k = X.getD k 0 + left.getD k 0 := by unfold sumAt; rw [if_pos hlt]
      rw [mix_set, es] at hs
      have HS := Lib.hid hs
      obtain ⟨x, hx⟩ : ∃ x, X.getD k 0 = x := ⟨_, rfl⟩
      obtain ⟨y, hy⟩ : ∃ y, left.getD k 0 = y := ⟨_, rfl⟩
      rw [hx] at fc xb HS
      rw [hy] at hc tb HS
      have e2 : IntKind.i64.wrap (x + y) = x + y := wrapI64 (by omega) (by omega)
      have ik2 : (k : Int) < 640 := by omega
      have ik3 : k < 640 := by omega
      clear hs hx hy es
      go_upto_region 5 with fail
      go_still_tail 11, (by kernel_rfl)
      go_wp2
      go_roundw
      case rel => exact ⟨k + 1, by omega, by go_num, HS⟩
      case measure => simp [intOf]; omega
    · have ik : ¬ (k : Int) < 128 := by omega
      have E1 : Hid (k = 128) := Lib.hid (by omega)
      rw [E1.out, SM.out] at H
      clear hlt hk
      have H2 : Hid (Hp w wr [slA 2 .i64 (.slice none 0 0) ((List.range 0).map fo), rowA 2 .i64 go 640 Sx]) := Lib.hid (H.out.add_sl (Below.refl _ _) (Sl.nil wr 2 .i64) (fun g hg => by cases hg))
      clear H XB
      go_wp2_with fail
      go_loopw [12, 13] (fun u i wr => ∃ k : Nat, k ≤ 512 ∧ i = .int .i64 (k : Int) ∧ Hid (Hp w wr [slA 2 .i64 u ((List.range k).map fo), rowA 2 .i64 go 640 Sx])) (fun _ i _ => 512 - (intOf i).toNat)
      case atStart => exact ⟨0, by omega, rfl, H2⟩
      case round =>
        clear H2
        obtain ⟨k, hk, rfl, H⟩ := hrel
        by_cases hlt : k < 512
        · have ik : (k : Int) < 512 := by omega
          have sc := H.out.up1.row.cell (i := k) (by rw [SL.out]; omega)
          rw [SA'.out] at sc
          have sb := SB.out k
          have fk := FO.out k
          obtain ⟨x, hx⟩ : ∃ x, sumAt X left k = x := ⟨_, rfl⟩
          rw [hx] at sc sb fk
          have rb : -9223372036854775808 ≤ rdv 16 x ∧ rdv 16 x < 9223372036854775808 := by unfold rdv; omega
          have FK := Lib.hid fk
          have LN : Hid (((List.range k).map fo).length = k) := Lib.hid (by simp)
          have k2 : (k : Int) < 640 := by omega
          have k3 : k < 640 := by omega
          clear hx fk
          go_wp2_with fail
          refine (rRound_calls x 4 (by omega) (by decide) _).mono ?_
          rw [rnd_rdv4]
          rintro e2 w2 ⟨rfl, he⟩
          subst w2
          go_wp2_with fail
          refine (rSat16 (rdv 16 x) rb.1 rb.2 _).mono ?_
          rw [← FK.out]
          rintro e3 w3 ⟨rfl, he⟩
          subst w3
          go_wp2_with (at_builtin; refine wpList_push (.tmp 38) (.tmp 45) 31 2 .i64 0 8 rfl rfl Try.underlying31 info_i64 u12 ((List.range k).map fo) k (fo k) ⟨wr.heap.size, 0, none⟩ (wr.heap.size + 1) rfl rfl (H.out.sl.alloc _) LN.out ((Blk.new wr _ _).cell rfl) (by simp) (by omega) (by omega) ?_
                       intro g1 cap1 w2 hp
                       have h1 := ((H.out.alloc _).push hp (by simp)).row_sl (n := k + 1) (by rw [List.length_append, LN.out]; rfl)
                       rw [← out_succ] at h1
                       have H2 := Lib.hid h1
                       clear hp h1)
          go_roundw
          case rel => exact ⟨k + 1, by omega, by go_num, H2⟩
          case measure => simp [intOf]; omega
        · obtain rfl : k = 512 := by omega
          go_upto_region 11 with fail
          go_cut [8, 9] (fun u v wc => u = u12 ∧ v = .slice (some ⟨go, 512, none⟩) 128 128 ∧ Hid (Hp w wc [slA 2 .i64 u12 ((List.range 512).map fo), rowA 2 .i64 go 640 Sx]))
          case first =>
            go_quiet (fail)
            go_wp2
            go_meet
            exact ⟨rfl, rfl, Lib.hid (H.out.drewN _)⟩
          case rest =>
            obtain ⟨rfl, rfl, H⟩ := hcut
            go_wp2_with fail
            go_ret2
            exact ⟨_, _, rfl, H.out⟩
end Go.Proofs.Ytngldpeapcbbpaa.Lap

/-
  Law 9: that it lives, and OverlapLines; walks. No condition but that the arguments are of their kinds.
-/
set_option linter.unusedVariables false
set_option linter.unusedSimpArgs false
namespace Go.Proofs.Ytngldpeapcbbpaa.Lap
open Go.RowKit Go.Proofs.Ytngldpeapcbbpaa Go.Proofs.Ytngldpeapcbbpaa.Bnd Go.Proofs.Ytngldpeapcbbpaa.Art Go.Proofs.YtngldpeapcbbpaaW.PrintWords

theorem _root_.Go.Proofs.Ytngldpeapcbbpaa.Hp.blk_row {W w : World} {l : List Ast} {t : TypeId} {k : IntKind} {g : Nat} {xs : List Int} (h : Hp W w (blkA g t (xs.map (Value.int k)).toArray :: l)) (hm : xs.length ≤ maxLen) : Hp W w (rowA t k g xs.length xs :: l) :=
  h.say fun F ⟨h1, h2⟩ => ⟨RowI.of_whole h1 hm, h2⟩
theorem i16_bd {W : World} {a0 : Option Addr} {len0 cap0 : Nat} {z0 : List Int} (h : IsRow .i16 W a0 len0 cap0 z0) (j : Nat) : -32768 ≤ (z0.take len0).getD j 0 ∧ (z0.take len0).getD j 0 ≤ 32767 := by
  by_cases hj : j < (z0.take len0).length
  · have := h.wf _ (List.getElem_mem hj)
    simp only [Lit.wf, Bool.and_eq_true, decide_eq_true_eq] at this
    have e1 : IntKind.min .i16 = -32768 := by decide
    have e2 : IntKind.max .i16 = 32767 := by decide
    rw [e1, e2] at this
    rw [List.getD_eq_getElem?_getD, List.getElem?_eq_getElem hj]
    exact this
  · rw [List.getD_eq_getElem?_getD, List.getElem?_eq_none (by omega)]
    decide
def tone : List Int := [9000, 9000, -9000, -9000]
theorem fine_len (p : List Int) : (fine16 p).length = p.length := by simp [fine16]
theorem fine_at (p : List Int) (j : Nat) : (fine16 p).getD j 0 = p.getD j 0 * 16 := by
  unfold fine16
  simp only [List.getD_eq_getElem?_getD, List.getElem?_map]
  cases p[j]? <;> simp
theorem rep_bd (n j : Nat) : -524288 ≤ (List.replicate n (0 : Int)).getD j 0 ∧ (List.replicate n (0 : Int)).getD j 0 ≤ 524288 := by
  rw [List.getD_eq_getElem?_getD, List.getElem?_replicate]
  split <;> decide
theorem rep_bd' (n j : Nat) : -4294967296 ≤ (List.replicate n (0 : Int)).getD j 0 ∧ (List.replicate n (0 : Int)).getD j 0 ≤ 4294967296 := by
  have := rep_bd n j; omega
theorem app_at {xs ys : List Int} {n : Nat} (h : xs.length = n) (j : Nat) : (xs ++ ys).getD (n + j) 0 = ys.getD j 0 := by
  rw [List.getD_eq_getElem?_getD, List.getElem?_append_right (by omega), ← List.getD_eq_getElem?_getD, show n + j - xs.length = j by omega]
theorem app_at0 {xs ys : List Int} {j : Nat} (h : j < xs.length) : (xs ++ ys).getD j 0 = xs.getD j 0 := by
  rw [List.getD_eq_getElem?_getD, List.getElem?_append_left h, ← List.getD_eq_getElem?_getD]
theorem tone_b (j : Nat) : -32768 ≤ tone.getD j 0 ∧ tone.getD j 0 ≤ 32767 := by
  match j with
  | 0 => decide
  | 1 => decide
  | 2 => decide
  | 3 => decide
  | n + 4 => exact (by decide : (-32768 : Int) ≤ 0 ∧ (0 : Int) ≤ 32767)
theorem tone_X : (List.replicate 128 (0 : Int) ++ fine16 (framev tone 0)).length = 640 := by rw [List.length_append, fine_len, framev_len, List.length_replicate]
theorem tone_Xb (j : Nat) : -524288 ≤ (List.replicate 128 (0 : Int) ++ fine16 (framev tone 0)).getD j 0 ∧ (List.replicate 128 (0 : Int) ++ fine16 (framev tone 0)).getD j 0 ≤ 524288 :=
  app_bd (B := 524288) (rep_bd 128) (fine_bd (frame_b tone_b 0)) j
theorem outv_at (x left : List Int) (i : Nat) (h : i < 512) : (outv x left).getD i 0 = clampv (-32768) 32767 (rdv 16 (sumAt x left i)) := by
  unfold outv
  rw [List.getD_eq_getElem?_getD, List.getElem?_map, List.getElem?_range h]
  rfl
theorem sum_hi (x left : List Int) (i : Nat) (h : ¬ i < 128) : sumAt x left i = x.getD i 0 := by unfold sumAt; rw [if_neg h]
theorem near_loud (y z : Int) (h : -2300 ≤ y - z ∧ y - z ≤ 2300) (hz : z = 144000) : clampv (-32768) 32767 (rdv 16 y) ≠ 0 := by
  unfold clampv rdv
  split
  · omega
  · split <;> omega
theorem tone_at : (List.replicate 128 (0 : Int) ++ fine16 (framev tone 0)).getD (128 + 172) 0 = 144000 := by
  rw [app_at List.length_replicate, fine_at, framev_at _ _ _ (by decide)]
  have e : frameAt tone 0 172 = 9000 := by decide
  rw [e]
  rfl
theorem tone_loud : (outv (snd false (ovl false (List.replicate 128 0 ++ fine16 (framev tone 0)))) (List.replicate 128 0)).getD (128 + 172) 0 ≠ 0 := by
  have h := snd_mid tone_X tone_Xb false (k := 128 + 172) (by decide) (by decide)
  rw [outv_at _ _ _ (by decide), sum_hi _ _ _ (by decide)]
  exact near_loud _ _ h tone_at
/-- What lines are. -/
theorem ovl_len (b : Bool) (X : List Int) : (ovl b X).length = 512 := by
  cases b
  · exact fwdv_len _ _ _ _
  · show (brfL X).length = 512
    unfold brfL
    rw [List.length_map, List.length_range]
theorem fwd_at_b (n un : Nat) (D : Int) (x : List Int) (j : Nat) : -33554432 ≤ (fwdv n un D x).getD j 0 ∧ (fwdv n un D x).getD j 0 < 33554432 := by
  have h := fwdv_within n un D x
  exact within_at h (by decide) j
theorem ovl_b (b : Bool) (X : List Int) (j : Nat) : -33554432 ≤ (ovl b X).getD j 0 ∧ (ovl b X).getD j 0 < 33554432 := by
  cases b
  · exact fwd_at_b _ _ _ _ _
  · show -33554432 ≤ (brfL X).getD j 0 ∧ (brfL X).getD j 0 < 33554432
    unfold brfL
    rw [List.getD_eq_getElem?_getD, List.getElem?_map]
    by_cases hj : j < 512
    · rw [List.getElem?_range hj]
      exact fwd_at_b _ _ _ _ _
    · rw [List.getElem?_eq_none (by simp; omega)]
      simp
theorem in_within {L : List Int} (h : ∀ j, -33554432 ≤ L.getD j 0 ∧ L.getD j 0 < 33554432) : within 33554432 L = true := by
  unfold within
  rw [List.all_eq_true]
  intro y hy
  obtain ⟨i, hi, rfl⟩ := List.getElem_of_mem hy
  have := h i
  rw [List.getD_eq_getElem?_getD, List.getElem?_eq_getElem hi, Option.getD_some] at this
  simp only [Bool.and_eq_true, decide_eq_true_eq]
  omega
attribute [local irreducible] cosv wgt qt QT risev turnv backv shapev accv prt snd ovl outv framev fine16
set_option maxHeartbeats 2000000 in
set_option maxRecDepth 100000 in
theorem lives9 (w : World) : Calls Try.prog 26 #[] w fun e w' => e = .returned (.bool true) ∧ Below w.heap.size w w' := by
  have TL := tone_loud
  have TX := Lib.hid tone_X
  have TB := Lib.hid tone_Xb
  have FB := Lib.hid (frame_b tone_b 0)
  obtain ⟨L, hL⟩ : ∃ L, ovl false (List.replicate 128 0 ++ fine16 (framev tone 0)) = L := ⟨_, rfl⟩
  have LL : Hid (L.length = 512) := Lib.hid (by rw [← hL]; exact ovl_len _ _)
  have LB : Hid (∀ j, -33554432 ≤ L.getD j 0 ∧ L.getD j 0 < 33554432) := Lib.hid (by rw [← hL]; exact ovl_b _ _)
  rw [hL] at TL
  have HLL := Lib.hid hL
  clear hL
  obtain ⟨y, hy⟩ : ∃ y, (outv (snd false L) (List.replicate 128 0)).getD 300 0 = y := ⟨_, rfl⟩
  rw [hy] at TL
  have HY := Lib.hid hy
  have OL : Hid ((outv (snd false L) (List.replicate 128 0)).length = 512) := Lib.hid (by unfold outv; rw [List.length_map, List.length_range])
  clear hy
  have n1 : (y == 0) = false := by rw [beq_eq_false_iff_ne]; exact TL
  have n2 : (y != 0) = true := by rw [bne, n1]; rfl
  go_enter Try.func26, Try.ntmps26
  go_wp2_with fail
  refine (NewAnalyser_h (Hp.nil w)).mono ?_
  rintro e1 w1 ⟨a, c, lo, br, v, rfl, h1⟩
  have H1 := Lib.hid h1
  clear h1
  go_wp2_with fail
  refine (NewSynth_h H1.out).mono ?_
  rintro e2 w2 ⟨s, c2, lo2, br2, v2, rfl, h2⟩
  have h3 : Hp w (w2.alloc (.cells #[.int .i16 9000, .int .i16 9000, .int .i16 (-9000), .int .i16 (-9000)] 49)) (rowA 49 .i16 w2.heap.size tone.length tone :: _) := (h2.new_blk 49 (tone.map (Value.int .i16)).toArray).blk_row (by decide)
  have H3 := Lib.hid h3
  clear h2 h3 H1
  go_wp2_with fail
  refine (Frame_h H3.out (Rd.row) rfl (by decide) 0 (by decide)).mono ?_
  rintro e4 w4 ⟨gp, rfl, h4⟩
  have H4 := Lib.hid (h4.pk [7, 7, 7, 7, 7, 0, 1, 1, 1, 1, 1])
  clear h4 H3
  go_wp2_with fail
  refine (Lines_h H4.out (List.length_replicate) (rep_bd 128) (Rd.rown (framev_len _ _)) (framev_len _ _) FB.out false).mono ?_
  rw [HLL.out]
  rintro e5 w5 ⟨gl, v5, rfl, h5⟩
  have H5 := Lib.hid (h5.pk [7, 7, 7, 7, 7, 0])
  clear h5 H4
  go_wp2_with fail
  refine (Samples_h H5.out (List.length_replicate) (rep_bd' 128) (Rd.rown LL.out) LL.out LB.out (in_within LB.out) false).mono ?_
  rintro e6 w6 ⟨gs, v6, rfl, h6⟩
  have H6 := Lib.hid h6
  have cx := h6.row.cell (i := 300) (by rw [OL.out]; decide)
  have ec : (outv (snd false L) (List.replicate 128 0))[300]'(by rw [OL.out]; decide) = y := by
    have := HY.out
    rw [List.getD_eq_getElem?_getD, List.getElem?_eq_getElem (by rw [OL.out]; decide), Option.getD_some] at this
    exact this
  rw [ec] at cx
  clear ec h6 H5
  go_wp2_with fail
  go_ret
  exact ⟨rfl, H6.out.b⟩
theorem rLines {w : World} {A0 : Option Addr} {cap0 : Nat} (sq : Src w .i64 (.slice A0 1025 cap0) QT) {A : Option Addr} {X : List Int} (src : Src w .i64 (.slice A 640 640) X) (xl : X.length = 640) (xb : ∀ j, -524288 ≤ X.getD j 0 ∧ X.getD j 0 ≤ 524288) (b : Bool) :
    Calls Try.prog 30 #[.slice A0 1025 cap0, .slice A 640 640, .bool b] w fun e w' => ∃ g, e = .returned (.slice (some ⟨g, 0, none⟩) 512 512) ∧ w.heap.size ≤ g ∧ RowI w' 2 .i64 g 512 (ovl b X) ∧ Below w.heap.size w w' := by
  cases b
  · exact rLinesL sq src xl xb
  · exact rLinesB sq src xl (Nat.le_refl _) xb
theorem turn_row {W w w2 : World} {l : List Ast} {t : TypeId} {k : IntKind} {g n : Nat} {xs ys : List Int} (h : Hp W w (rowA t k g n xs :: l)) (r : RowI w2 t k g n ys) (o : Only (fun i => i = g) w w2) : Hp W w2 (rowA t k g n ys :: l) :=
  h.turn fun F ⟨h1, h2⟩ => ⟨by subst h2; exact o, _, ⟨r, rfl⟩, fun i e => .inl (by subst h2; exact e)⟩
theorem first_mix {Z past F : List Int} (zl : Z.length = 640) (zd : Z.drop 512 = past) (pl : past.length = 128) : splice Z 0 (Z.drop 512) = mixTo (fun j => (past ++ F).getD j 0) (fun j => (splice Z 0 (Z.drop 512)).getD j 0) 640 128 := by
  have ls : (splice Z 0 (Z.drop 512)).length = 640 := by rw [length_splice _ _ _ (by rw [List.length_drop]; omega), zl]
  apply List.ext_getElem
  · rw [ls, mix_len]
  · intro j h1 h2
    rw [mix_at]
    split
    · rw [app_at0 (by omega), ← zd]
      have hj : j < (Z.drop 512).length := by rw [List.length_drop]; omega
      rw [List.getD_eq_getElem?_getD, List.getElem?_eq_getElem hj, Option.getD_some]
      unfold splice
      simp only [List.take_zero, List.nil_append]
      rw [List.getElem_append_left hj]
    · rw [List.getD_eq_getElem?_getD, List.getElem?_eq_getElem h1, Option.getD_some]
theorem all_mix {past F : List Int} (g : Nat → Int) (pl : past.length = 128) (fl : F.length = 512) : mixTo (fun j => (past ++ F).getD j 0) g 640 640 = past ++ F := by
  rw [mix_all]
  apply List.ext_getElem
  · simp [pl, fl]
  · intro j h1 h2
    simp [List.getElem?_eq_getElem h2]
set_option maxHeartbeats 4000000 in
set_option maxRecDepth 100000 in
theorem lines9_law (a0 : Option Addr) (len0 cap0 : Nat) (z0 : List Int) (a1 : Option Addr) (len1 cap1 : Nat) (z1 : List Bool) (W : World) (h0 : IsRow .i16 W a0 len0 cap0 z0) (y0 : len0 * 2 ≤ 140737488351232) (h1 : Bools W a1 len1 cap1 z1) :
    Calls Try.prog 7 #[.slice a0 len0 cap0, .slice a1 len1 cap1] W fun e w' => e = .returned (.bool true) ∧ Below W.heap.size W w' := by
  by_cases hs : 3000 < len0 ∨ 5 < len1
  · by_cases hs0 : 3000 < len0
    · have k1 : decide ((3000 : Int) < (len0 : Int)) = true := decide_eq_true (by omega)
      go_enter Try.func7, Try.ntmps7
      go_wp2_with fail
      refine (lives9 _).mono ?_
      rintro e1 w1 ⟨rfl, b1⟩
      have H1 : Hid (Hp W w1 []) := Lib.hid ((Hp.nil W).keep b1)
      clear b1
      go_wp2_with fail
      refine (lives9 _).mono ?_
      rintro e2 w2 ⟨rfl, b2⟩
      have H2 := Lib.hid (H1.out.keep b2)
      clear b2
      go_wp2_with fail
      go_ret
      exact ⟨rfl, H2.out.b⟩
    · have k1 : decide ((3000 : Int) < (len0 : Int)) = false := decide_eq_false (by omega)
      have k2 : decide ((5 : Int) < (len1 : Int)) = true := decide_eq_true (by omega)
      go_enter Try.func7, Try.ntmps7
      go_wp2_with fail
      refine (lives9 _).mono ?_
      rintro e1 w1 ⟨rfl, b1⟩
      have H1 : Hid (Hp W w1 []) := Lib.hid ((Hp.nil W).keep b1)
      clear b1
      go_wp2_with fail
      refine (lives9 _).mono ?_
      rintro e2 w2 ⟨rfl, b2⟩
      have H2 := Lib.hid (H1.out.keep b2)
      clear b2
      go_wp2_with fail
      go_ret
      exact ⟨rfl, H2.out.b⟩
  have k1 : decide ((3000 : Int) < (len0 : Int)) = false := decide_eq_false (by omega)
  have k2 : decide ((5 : Int) < (len1 : Int)) = false := decide_eq_false (by omega)
  have l5 : len1 ≤ 5 := by omega
  have l3 : len0 ≤ 3000 := by omega
  have RD := Lib.hid h0.src
  have LN := Lib.hid h0.take_len
  have B16 := Lib.hid (i16_bd h0)
  have BO := Lib.hid h1
  clear h0 y0 h1
  generalize z0.take len0 = ys at *
  have hm := mk64 640 (by decide)
  rw [show ((640 : Nat) : Int) = 640 from rfl] at hm
  go_enter Try.func7, Try.ntmps7
  go_wp2_with fail
  refine (lives9 _).mono ?_
  rintro e1 w1 ⟨rfl, b1⟩
  have H1 : Hid (Hp W w1 []) := Lib.hid ((Hp.nil W).keep b1)
  clear b1
  go_wp2_with fail
  refine (Quarter_h H1.out).mono ?_
  rintro e2 w2 ⟨gq, cq, rfl, _, h2⟩
  have H2 := Lib.hid h2
  clear h2 H1
  go_wp2_with fail
  refine (NewAnalyser_h H2.out).mono ?_
  rintro e3 w3 ⟨a, c, lo, br, v, rfl, h3⟩
  obtain ⟨ga, hga⟩ : ∃ ga, w3.heap.size = ga := ⟨_, rfl⟩
  have h4 := h3.new_row 2 .i64 640 0 (by decide)
  rw [hga] at h4
  have H4 : Hid (∃ v past Z, past.length = 128 ∧ Z.length = 640 ∧ Z.drop 512 = past ∧ (∀ j, -524288 ≤ past.getD j 0 ∧ past.getD j 0 ≤ 524288) ∧ Hp W (w3.alloc (.cells (madeCells #[.int .i64 0] 640) 2)) (anaA a c lo br v :: slA 21 .i32 v past :: lapA lo c 512 1 28 :: lapA br c 128 4 27 :: circA c :: rowA 2 .i64 ga 640 Z :: rowA 2 .i64 gq cq QT :: [])) := Lib.hid ⟨v, List.replicate 128 0, List.replicate 640 0, by simp, by rw [List.length_replicate], by rw [List.drop_replicate], rep_bd 128, h4.pk [1, 1, 1, 1, 1, 0, 0]⟩
  clear h3 h4 H2
  go_wp2_with fail
  try rw [hga]
  clear hga
  go_loopw [35] (fun u wr => ∃ i : Nat, i ≤ len1 ∧ u = .int .i64 (i : Int) ∧ Hid (∃ v past Z, past.length = 128 ∧ Z.length = 640 ∧ Z.drop 512 = past ∧ (∀ j, -524288 ≤ past.getD j 0 ∧ past.getD j 0 ≤ 524288) ∧ Hp W wr (anaA a c lo br v :: slA 21 .i32 v past :: lapA lo c 512 1 28 :: lapA br c 128 4 27 :: circA c :: rowA 2 .i64 ga 640 Z :: rowA 2 .i64 gq cq QT :: []))) (fun u _ => len1 - (intOf u).toNat)
  case atStart => exact ⟨0, by omega, rfl, H4⟩
  case round =>
    clear H4
    obtain ⟨i, hi, rfl, HX⟩ := hrel
    by_cases hlt : i < len1
    · have ii : (i : Int) < (len1 : Int) := by omega
      obtain ⟨v, past, Z, pl, zl, zd, pb, h⟩ := HX.out
      obtain ⟨x1, rfl, hb⟩ := Bools.at BO.out h.b hlt
      obtain ⟨b, hbb⟩ : ∃ b, z1.getD i false = b := ⟨_, rfl⟩
      rw [hbb] at hb
      obtain ⟨n0, hn0⟩ : ∃ n0 : Nat, n0 = 512 * i := ⟨_, rfl⟩
      have n1 : n0 ≤ 100000 := by omega
      have e1 : IntKind.i64.wrap (512 * (i : Int)) = (n0 : Int) := by rw [wrapI64 (by omega) (by omega)]; omega
      have H := Lib.hid h
      have PL := Lib.hid pl
      have ZL := Lib.hid zl
      have ZD := Lib.hid zd
      have PB := Lib.hid pb
      have HN := Lib.hid hn0
      clear HX h pl zl zd pb hbb hn0
      go_wp2_with fail
      refine (Frame_h H.out (Rd.arg RD.out) LN.out (by omega) n0 n1).mono ?_
      rintro e5 w5 ⟨gp, rfl, h5⟩
      have FL := Lib.hid (framev_len ys n0)
      have FB := Lib.hid (frame_b B16.out n0)
      obtain ⟨pcm, hp⟩ : ∃ pcm, framev ys n0 = pcm := ⟨_, rfl⟩
      rw [hp] at h5 FL FB
      have H5 := Lib.hid (h5.pk [6, 0, 0, 0, 0, 0, 0, 0])
      clear h5 hp H hb
      have zr := H5.out.row
      rw [← ZL.out] at zr
      have ZR := Lib.hid zr
      have CP : Hid (∀ j (h : j < (Z.drop 512).length), w5.cell? ((⟨ga, 512, none⟩ : Addr).add j) = some (.int .i64 (Z.drop 512)[j])) := Lib.hid (fun j h => by
        have hc := zr.cell (i := 512 + j) (by rw [List.length_drop] at h; omega)
        rw [List.getElem_drop]
        unfold Addr.add
        split
        · rename_i h0; subst h0; exact hc
        · exact hc)
      have DL : Hid ((Z.drop 512).length = 128) := Lib.hid (by rw [List.length_drop, ZL.out])
      clear zr
      go_wp2_with (refine wpList_copyR rfl (.tmp 44) (.tmp 46) 31 31 rfl 2 Try.underlying31 (by kernel_rfl) ga 0 640 640 ⟨ga, 512, none⟩ 128 128 rfl rfl Z (Z.drop 512) ZR.out (by rw [DL.out]; rfl) CP.out (by rw [DL.out, ZL.out]; decide) ?_
                   intro w6 hr6 ho6
                   rw [ZL.out] at hr6
                   have h6 := turn_row H5.out hr6 ho6
                   rw [first_mix (F := fine16 pcm) ZL.out ZD.out PL.out] at h6
                   have H6 : Hid (Hp W w6 (rowA 2 .i64 ga 640 (mixTo (fun j => (past ++ fine16 pcm).getD j 0) (fun j => (splice Z 0 (Z.drop 512)).getD j 0) 640 (128 + 0)) :: rowA 49 .i16 gp 512 pcm :: anaA a c lo br v :: slA 21 .i32 v past :: lapA lo c 512 1 28 :: lapA br c 128 4 27 :: circA c :: rowA 2 .i64 gq cq QT :: [])) := Lib.hid h6
                   clear h6 hr6 ho6 CP ZR H5)
      obtain ⟨gz, hgz⟩ : ∃ gz : Nat → Int, (fun j => (splice Z 0 (Z.drop 512)).getD j 0) = gz := ⟨_, rfl⟩
      obtain ⟨fx, hfx⟩ : ∃ fx : Nat → Int, (fun j => (past ++ fine16 pcm).getD j 0) = fx := ⟨_, rfl⟩
      rw [hgz, hfx] at H6
      have FX : Hid (∀ k, k < 512 → fx (128 + k) = 16 * pcm.getD k 0) := Lib.hid (fun k hk => by
        rw [← hfx]
        show (past ++ fine16 pcm).getD (128 + k) 0 = _
        rw [app_at PL.out, fine_at, Int.mul_comm])
      have AM : Hid (mixTo fx gz 640 640 = past ++ fine16 pcm) := Lib.hid (by rw [← hfx]; exact all_mix gz PL.out (by rw [fine_len, FL.out]))
      clear hgz hfx
      go_loopw [50] (fun u wr => ∃ k : Nat, k ≤ 512 ∧ u = .int .i64 (k : Int) ∧ Hid (Hp W wr (rowA 2 .i64 ga 640 (mixTo fx gz 640 (128 + k)) :: rowA 49 .i16 gp 512 pcm :: anaA a c lo br v :: slA 21 .i32 v past :: lapA lo c 512 1 28 :: lapA br c 128 4 27 :: circA c :: rowA 2 .i64 gq cq QT :: []))) (fun u _ => 512 - (intOf u).toNat)
      case atStart => exact ⟨0, by omega, rfl, H6⟩
      case round =>
        clear H6
        obtain ⟨k, hk, rfl, H⟩ := hrel
        by_cases hlt : k < 512
        · have ik : (k : Int) < 512 := by omega
          have sc := H.out.up1.row.cell (i := k) (by rw [FL.out]; exact hlt)
          have sg : pcm[k]'(by rw [FL.out]; exact hlt) = pcm.getD k 0 := by rw [List.getD_eq_getElem?_getD, List.getElem?_eq_getElem (by rw [FL.out]; exact hlt), Option.getD_some]
          rw [sg] at sc
          have fb := FB.out k
          have fx1 := FX.out k hlt
          obtain ⟨y, hy⟩ : ∃ y, pcm.getD k 0 = y := ⟨_, rfl⟩
          rw [hy] at sc fb fx1
          obtain ⟨i1, hi1⟩ : ∃ i1 : Nat, i1 = 128 + k := ⟨_, rfl⟩
          rw [← hi1] at H fx1
          have fr := H.out.row.free i1
          have fc := H.out.row.cell (i := i1) (by rw [mix_len]; omega)
          rw [mix_at, if_neg (Nat.lt_irrefl _)] at fc
          have hs := H.out.set i1 (fx i1)
          rw [mix_set, fx1] at hs
          have HS := Lib.hid hs
          have e2 : IntKind.i64.wrap (128 + (k : Int)) = (i1 : Int) := by rw [wrapI64 (by omega) (by omega)]; omega
          have e3 : IntKind.i64.wrap (16 * y) = 16 * y := wrapI64 (by omega) (by omega)
          have e4 : wrap64 y = y := by unfold wrap64; omega
          have i2 : (i1 : Int) < 640 := by omega
          have i3 : i1 < 640 := by omega
          have HI := Lib.hid hi1
          clear hs hy sg fx1 hi1
          go_wp2_with fail
          go_roundw
          case rel => exact ⟨k + 1, by omega, by go_num, by rw [show 128 + (k + 1) = i1 + 1 by have := HI.out; omega]; exact HS⟩
          case measure => simp [intOf]; omega
        · have ik : ¬ (k : Int) < 512 := by omega
          have E1 : Hid (k = 512) := Lib.hid (by omega)
          rw [E1.out, show 128 + 512 = 640 from rfl, AM.out] at H
          have XL : Hid ((past ++ fine16 pcm).length = 640) := Lib.hid (by rw [List.length_append, fine_len, PL.out, FL.out])
          have XB : Hid (∀ j, -524288 ≤ (past ++ fine16 pcm).getD j 0 ∧ (past ++ fine16 pcm).getD j 0 ≤ 524288) := Lib.hid (app_bd PB.out (fine_bd FB.out))
          have H7 := Lib.hid (H.out.pk [2, 2, 2, 2, 2, 1, 0, 0])
          clear hlt hk H
          go_wp2_with fail
          refine (Lines_h H7.out PL.out PB.out (Rd.rown FL.out) FL.out FB.out b).mono ?_
          rintro e8 w8 ⟨gl, v8, rfl, h8⟩
          obtain ⟨X, hX⟩ : ∃ X, past ++ fine16 pcm = X := ⟨_, rfl⟩
          rw [hX] at h8 XL XB
          have H8 := Lib.hid h8
          clear h8 H7 hX AM FX
          have sq := Src.of_sl (Sl.row H8.out.up8.row)
          rw [QT_length] at sq
          have sx := Src.of_sl (Sl.row H8.out.up7.row)
          rw [XL.out] at sx
          have C9 := Lib.hid (rLines sq sx XL.out XB.out b)
          clear sq sx
          go_wp2_with fail
          refine C9.out.mono ?_
          rintro e9 w9 ⟨gw, rfl, hgw, hrw, b9⟩
          have H9 := Lib.hid (H8.out.add_row b9 hrw hgw)
          have OL := Lib.hid (ovl_len b X)
          have OB := Lib.hid (ovl_b b X)
          obtain ⟨L, hL⟩ : ∃ L, ovl b X = L := ⟨_, rfl⟩
          rw [hL] at H9 OL OB
          clear hrw b9 hgw C9 H8 hL
          have H10 : Hid (Hp W w9 (rowA 2 .i64 gw 512 L :: rowA 21 .i32 gl 512 L :: rowA 2 .i64 ga 640 X :: anaA a c lo br v8 :: slA 21 .i32 v8 (X.drop 512) :: lapA lo c 512 1 28 :: lapA br c 128 4 27 :: circA c :: rowA 2 .i64 gq cq QT :: [])) := Lib.hid (H9.out.pk [0, 0, 6, 0, 0, 0, 0, 0, 1])
          clear H9
          go_wp2_with fail
          go_loopw [83] (fun u wr => ∃ k : Nat, k ≤ 512 ∧ u = .int .i64 (k : Int) ∧ Hid (Hp W wr (rowA 2 .i64 gw 512 L :: rowA 21 .i32 gl 512 L :: rowA 2 .i64 ga 640 X :: anaA a c lo br v8 :: slA 21 .i32 v8 (X.drop 512) :: lapA lo c 512 1 28 :: lapA br c 128 4 27 :: circA c :: rowA 2 .i64 gq cq QT :: []))) (fun u _ => 512 - (intOf u).toNat)
          case atStart => exact ⟨0, by omega, rfl, H10⟩
          case round =>
            clear H10
            obtain ⟨k, hk, rfl, H⟩ := hrel
            by_cases hlt : k < 512
            · have ik : (k : Int) < 512 := by omega
              have d1 := H.out.up1.row.cell (i := k) (by rw [OL.out]; exact hlt)
              have d2 := H.out.row.cell (i := k) (by rw [OL.out]; exact hlt)
              have sg : L[k]'(by rw [OL.out]; exact hlt) = L.getD k 0 := by rw [List.getD_eq_getElem?_getD, List.getElem?_eq_getElem (by rw [OL.out]; exact hlt), Option.getD_some]
              rw [sg] at d1 d2
              have bx := OB.out k
              obtain ⟨x, hx⟩ : ∃ x, L.getD k 0 = x := ⟨_, rfl⟩
              rw [hx] at d1 d2 bx
              have w1 : IntKind.i64.wrap x = x := wrapI64 (by omega) (by omega)
              clear hx sg
              go_wp2_with fail
              go_quiet (fail)
              clear w1
              go_wp2_with fail
              go_roundw
              case rel => exact ⟨k + 1, by omega, by go_num, Lib.hid (H.out.drewN _)⟩
              case measure => simp [intOf]; omega
            · have ik : ¬ (k : Int) < 512 := by omega
              have HN : Hid (∃ v past Z, past.length = 128 ∧ Z.length = 640 ∧ Z.drop 512 = past ∧ (∀ j, -524288 ≤ past.getD j 0 ∧ past.getD j 0 ≤ 524288) ∧ Hp W wr (anaA a c lo br v :: slA 21 .i32 v past :: lapA lo c 512 1 28 :: lapA br c 128 4 27 :: circA c :: rowA 2 .i64 ga 640 Z :: rowA 2 .i64 gq cq QT :: [])) := Lib.hid ⟨v8, X.drop 512, X, by rw [List.length_drop, XL.out], XL.out, rfl, fun j => by
                have := XB.out (512 + j)
                rw [List.getD_eq_getElem?_getD, List.getElem?_drop, ← List.getD_eq_getElem?_getD]
                exact this, H.out.pk [3, 3, 3, 3, 3, 2, 2]⟩
              clear hlt hk H
              go_wp2_with fail
              go_roundw
              case rel => exact ⟨i + 1, by omega, by go_num, HN⟩
              case measure => simp [intOf]; omega
    · have ik : ¬ (i : Int) < (len1 : Int) := by omega
      obtain ⟨v, past, Z, _, _, _, _, h⟩ := HX.out
      have HB := Lib.hid h.b
      clear HX h
      go_wp2_with fail
      go_ret
      exact ⟨rfl, HB.out⟩
end Go.Proofs.Ytngldpeapcbbpaa.Lap

/-
  Law 9: OverlapSamples; walks. No condition but that the arguments are of their kinds.
-/
set_option linter.unusedVariables false
set_option linter.unusedSimpArgs false
namespace Go.Proofs.Ytngldpeapcbbpaa.Lap
open Go.RowKit Go.Proofs.Ytngldpeapcbbpaa Go.Proofs.Ytngldpeapcbbpaa.Bnd Go.Proofs.Ytngldpeapcbbpaa.Art Go.Proofs.YtngldpeapcbbpaaW.PrintWords

theorem _root_.Go.Proofs.Ytngldpeapcbbpaa.Hp.join2 {W w w' : World} {l : List Ast} {A1 A2 : Ast} (h : Hp W w l) (h' : Hp w w' [A1, A2]) : Hp W w' (A1 :: A2 :: l) := by
  obtain ⟨F, h1, h2, _⟩ := h'.both.open1
  exact (h.new h'.b (A' := Ast.both A1 A2) h1 (fun k hk => (h2 k hk).1)).apart
theorem tmod25 (x : Int) : -33554432 ≤ Int.tmod x 33554432 ∧ Int.tmod x 33554432 < 33554432 := by
  have := tmod_bd x 33554432 (by decide)
  omega
/-- The lines of a frame that OverlapSamples asks for. -/
def lineAt (ys : List Int) (from_ i : Nat) : Int := if ys.length = 0 then 0 else Int.tmod (ys.getD ((from_ + i) % ys.length) 0) 33554432
theorem lineAt_b (ys : List Int) (from_ i : Nat) : -33554432 ≤ lineAt ys from_ i ∧ lineAt ys from_ i < 33554432 := by
  unfold lineAt
  split
  · decide
  · exact tmod25 _
theorem fill_b {f : Nat → Int} {a b : Int} (h : ∀ i, a ≤ f i ∧ f i < b) (h0 : a ≤ 0 ∧ 0 < b) (n j : Nat) : a ≤ (fillTo f n n).getD j 0 ∧ (fillTo f n n).getD j 0 < b := by
  rw [fillTo_all, List.getD_eq_getElem?_getD, List.getElem?_map]
  by_cases hj : j < n
  · rw [List.getElem?_range hj]
    exact h j
  · rw [List.getElem?_eq_none (by simp; omega)]
    exact h0
theorem Src_off {w : World} {e : TypeId} {k : IntKind} {g n off : Nat} {Z D : List Int} (h : RowI w e k g n Z) (c m : Nat) (hn : Z.length = off + m) (hd : Z.drop off = D) : Src w k (.slice (some ⟨g, off, none⟩) m c) D := hd ▸ Src_drop h off c hn
attribute [local irreducible] cosv wgt qt QT risev turnv backv shapev accv prt snd ovl outv framev fine16 sumv
set_option maxHeartbeats 4000000 in
set_option maxRecDepth 100000 in
theorem samples9_law (a0 : Option Addr) (len0 cap0 : Nat) (z0 : List Int) (a1 : Option Addr) (len1 cap1 : Nat) (z1 : List Bool) (W : World) (h0 : IsRow .i32 W a0 len0 cap0 z0) (y0 : len0 * 4 ≤ 140737488351232) (h1 : Bools W a1 len1 cap1 z1) :
    Calls Try.prog 9 #[.slice a0 len0 cap0, .slice a1 len1 cap1] W fun e w' => e = .returned (.bool true) ∧ Below W.heap.size W w' := by
  by_cases hs : 3000 < len0 ∨ 5 < len1
  · by_cases hs0 : 3000 < len0
    · have k1 : decide ((3000 : Int) < (len0 : Int)) = true := decide_eq_true (by omega)
      go_enter Try.func9, Try.ntmps9
      go_wp2_with fail
      refine (lives9 _).mono ?_
      rintro e1 w1 ⟨rfl, b1⟩
      have H1 : Hid (Hp W w1 []) := Lib.hid ((Hp.nil W).keep b1)
      clear b1
      go_wp2_with fail
      refine (lives9 _).mono ?_
      rintro e2 w2 ⟨rfl, b2⟩
      have H2 := Lib.hid (H1.out.keep b2)
      clear b2
      go_wp2_with fail
      go_ret
      exact ⟨rfl, H2.out.b⟩
    · have k1 : decide ((3000 : Int) < (len0 : Int)) = false := decide_eq_false (by omega)
      have k2 : decide ((5 : Int) < (len1 : Int)) = true := decide_eq_true (by omega)
      go_enter Try.func9, Try.ntmps9
      go_wp2_with fail
      refine (lives9 _).mono ?_
      rintro e1 w1 ⟨rfl, b1⟩
      have H1 : Hid (Hp W w1 []) := Lib.hid ((Hp.nil W).keep b1)
      clear b1
      go_wp2_with fail
      refine (lives9 _).mono ?_
      rintro e2 w2 ⟨rfl, b2⟩
      have H2 := Lib.hid (H1.out.keep b2)
      clear b2
      go_wp2_with fail
      go_ret
      exact ⟨rfl, H2.out.b⟩
  have k1 : decide ((3000 : Int) < (len0 : Int)) = false := decide_eq_false (by omega)
  have k2 : decide ((5 : Int) < (len1 : Int)) = false := decide_eq_false (by omega)
  have l5 : len1 ≤ 5 := by omega
  have l3 : len0 ≤ 3000 := by omega
  have RD := Lib.hid h0.src
  have LN := Lib.hid h0.take_len
  have BO := Lib.hid h1
  have B32 := Lib.hid (i32_bd h0)
  clear h0 y0 h1
  generalize z0.take len0 = ys at *
  have hm := mk64 128 (by decide)
  rw [show ((128 : Nat) : Int) = 128 from rfl] at hm
  go_enter Try.func9, Try.ntmps9
  go_wp2_with fail
  refine (lives9 _).mono ?_
  rintro e1 w1 ⟨rfl, b1⟩
  have H1 : Hid (Hp W w1 []) := Lib.hid ((Hp.nil W).keep b1)
  clear b1
  go_wp2_with fail
  refine (Quarter_h H1.out).mono ?_
  rintro e2 w2 ⟨gq, cq, rfl, _, h2⟩
  have H2 := Lib.hid h2
  clear h2 H1
  go_wp2_with fail
  refine (NewSynth_h H2.out).mono ?_
  rintro e3 w3 ⟨s, c, lo, br, v, rfl, h3⟩
  obtain ⟨ga, hga⟩ : ∃ ga, w3.heap.size = ga := ⟨_, rfl⟩
  have h4 := h3.new_row 2 .i64 128 0 (by decide)
  rw [hga] at h4
  have H4 : Hid (∃ v tail gl n off cl Z, tail.length = 128 ∧ (∀ j, -4294967296 ≤ tail.getD j 0 ∧ tail.getD j 0 ≤ 4294967296) ∧ Z.drop off = tail ∧ Z.length = off + 128 ∧ (.slice (some ⟨ga, 0, none⟩) 128 128 : Value) = .slice (some ⟨gl, off, none⟩) 128 cl ∧ Hp W (w3.alloc (.cells (madeCells #[.int .i64 0] 128) 2)) (synA s c lo br v :: slA 2 .i64 v tail :: lapA lo c 512 1 28 :: lapA br c 128 4 27 :: circA c :: rowA 2 .i64 gq cq QT :: rowA 2 .i64 gl n Z :: [])) := Lib.hid ⟨v, List.replicate 128 0, ga, 128, 0, 128, List.replicate 128 0, by simp, rep_bd' 128, rfl, by simp, rfl, h4.pk [1, 1, 1, 1, 1, 1, 0]⟩
  clear h3 h4 H2
  go_wp2_with fail
  try rw [hga]
  clear hga
  have hm1 := mk32 512 (by decide)
  rw [show ((512 : Nat) : Int) = 512 from rfl] at hm1
  have hm2 := mk64 512 (by decide)
  rw [show ((512 : Nat) : Int) = 512 from rfl] at hm2
  go_loopw [7, 40] (fun lf u wr => ∃ i : Nat, i ≤ len1 ∧ u = .int .i64 (i : Int) ∧ Hid (∃ v tail gl n off cl Z, tail.length = 128 ∧ (∀ j, -4294967296 ≤ tail.getD j 0 ∧ tail.getD j 0 ≤ 4294967296) ∧ Z.drop off = tail ∧ Z.length = off + 128 ∧ lf = .slice (some ⟨gl, off, none⟩) 128 cl ∧ Hp W wr (synA s c lo br v :: slA 2 .i64 v tail :: lapA lo c 512 1 28 :: lapA br c 128 4 27 :: circA c :: rowA 2 .i64 gq cq QT :: rowA 2 .i64 gl n Z :: []))) (fun _ u _ => len1 - (intOf u).toNat)
  case atStart => exact ⟨0, by omega, rfl, H4⟩
  case round =>
    clear H4
    obtain ⟨i, hi, rfl, HX⟩ := hrel
    by_cases hlt : i < len1
    · have ii : (i : Int) < (len1 : Int) := by omega
      obtain ⟨v, tail, gl, n, off, cl, Z, tl, tb, zd, zl, rfl, h⟩ := HX.out
      obtain ⟨x1, rfl, hb⟩ := Bools.at BO.out h.b hlt
      obtain ⟨b, hbb⟩ : ∃ b, z1.getD i false = b := ⟨_, rfl⟩
      rw [hbb] at hb
      obtain ⟨n0, hn0⟩ : ∃ n0 : Nat, n0 = 512 * i := ⟨_, rfl⟩
      have n1 : n0 ≤ 100000 := by omega
      have e1 : IntKind.i64.wrap (512 * (i : Int)) = (n0 : Int) := by rw [wrapI64 (by omega) (by omega)]; omega
      have H := Lib.hid h
      have TL := Lib.hid tl
      have TB := Lib.hid tb
      have ZD := Lib.hid zd
      have ZL := Lib.hid zl
      have HN := Lib.hid hn0
      clear HX h tl tb zd zl hbb hn0
      go_upto_region 9 with fail
      clear hb
      go_cut [10, 11] (fun u1 u2 wc => ∃ g1 g2, u1 = .slice (some ⟨g1, 0, none⟩) 512 512 ∧ u2 = .slice (some ⟨g2, 0, none⟩) 512 512 ∧ Hid (Hp W wc (rowA 21 .i32 g1 512 (List.replicate 512 0) :: rowA 2 .i64 g2 512 (List.replicate 512 0) :: synA s c lo br v :: slA 2 .i64 v tail :: lapA lo c 512 1 28 :: lapA br c 128 4 27 :: circA c :: rowA 2 .i64 gq cq QT :: rowA 2 .i64 gl n Z :: [])))
      case first =>
        go_region
        all_goals (go_wp2; go_meet)
        · have h5 := ((H.out.new_row 21 .i32 512 0 (by decide)).new_row 2 .i64 512 0 (by decide)).up1
          rw [show (wr.alloc (.cells (madeCells #[.int .i32 0] 512) 21)).heap.size = wr.heap.size + 1 by simp] at h5
          exact ⟨_, _, rfl, rfl, Lib.hid h5.drew⟩
        · have h5 := ((H.out.new_row 2 .i64 512 0 (by decide)).new_row 21 .i32 512 0 (by decide))
          rw [show (wr.alloc (.cells (madeCells #[.int .i64 0] 512) 2)).heap.size = wr.heap.size + 1 by simp] at h5
          exact ⟨_, _, rfl, rfl, Lib.hid h5.drew⟩
      case rest =>
        obtain ⟨g1, g2, rfl, rfl, H5⟩ := hcut
        clear H
        obtain ⟨f, hf⟩ : ∃ f : Nat → Int, f = lineAt ys n0 := ⟨_, rfl⟩
        have H6 : Hid (Hp W wc (rowA 21 .i32 g1 512 (fillTo f 512 0) :: rowA 2 .i64 g2 512 (fillTo f 512 0) :: synA s c lo br v :: slA 2 .i64 v tail :: lapA lo c 512 1 28 :: lapA br c 128 4 27 :: circA c :: rowA 2 .i64 gq cq QT :: rowA 2 .i64 gl n Z :: [])) := Lib.hid (by rw [fillTo_zero]; exact H5.out)
        have FB : Hid (∀ i, -33554432 ≤ f i ∧ f i < 33554432) := Lib.hid (by rw [hf]; exact lineAt_b ys n0)
        have HF := Lib.hid hf
        clear H5 hf
        go_wp2_with fail
        go_loopw [49] (fun u wr => ∃ k : Nat, k ≤ 512 ∧ u = .int .i64 (k : Int) ∧ Hid (Hp W wr (rowA 21 .i32 g1 512 (fillTo f 512 k) :: rowA 2 .i64 g2 512 (fillTo f 512 k) :: synA s c lo br v :: slA 2 .i64 v tail :: lapA lo c 512 1 28 :: lapA br c 128 4 27 :: circA c :: rowA 2 .i64 gq cq QT :: rowA 2 .i64 gl n Z :: []))) (fun u _ => 512 - (intOf u).toNat)
        case atStart => exact ⟨0, by omega, rfl, H6⟩
        case round =>
          clear H6
          obtain ⟨k, hk, rfl, H⟩ := hrel
          by_cases hlt : k < 512
          · have ik : (k : Int) < 512 := by omega
            have fb := FB.out k
            have hv : f k = lineAt ys n0 k := by rw [HF.out]
            have hs1 := H.out.set k (f k)
            rw [fillTo_set] at hs1
            have hs2 := hs1.up1.set k (f k)
            rw [fillTo_set] at hs2
            have HS1 := Lib.hid hs1
            have HS2 := Lib.hid hs2.up1
            have fr := H.out.row.free k
            have fc := H.out.row.cell (i := k) (by rw [fillTo_len]; omega)
            rw [fillTo_at] at fc
            have fr2 := hs1.up1.row.free k
            have fc2 := hs1.up1.row.cell (i := k) (by rw [fillTo_len]; omega)
            rw [fillTo_at] at fc2
            have dc := hs1.row.cell (i := k) (by rw [fillTo_len]; omega)
            have ed : (fillTo f 512 (k + 1))[k]'(by rw [fillTo_len]; omega) = f k := by simp only [← fillTo_set, List.getElem_set_self]
            rw [ed] at dc
            clear ed
            obtain ⟨y, hy⟩ : ∃ y, f k = y := ⟨_, rfl⟩
            have wy : IntKind.i32.wrap y = y := by rw [← hy]; unfold IntKind.wrap; simp only [IntKind.bits, IntKind.signed]; simp; omega
            have wy2 : wrap64 y = y := by rw [← hy]; unfold wrap64; omega
            by_cases h0 : len0 = 0
            · have l1 : decide ((0 : Int) < (len0 : Int)) = false := decide_eq_false (by omega)
              have hz : f k = 0 := by rw [hv]; unfold lineAt; rw [LN.out, if_pos h0]
              have e2 : fillTo f 512 (k + 1) = fillTo f 512 k := by
                rw [← fillTo_set, hz]
                apply List.ext_getElem
                · simp
                · intro j h1 h2
                  rw [List.getElem_set]
                  split
                  · rename_i e; subst e; exact (fillTo_at (f := f) ..).symm
                  · rfl
              have hs3 := H.out.up1.set k 0
              rw [show (fillTo f 512 k).set k 0 = fillTo f 512 (k + 1) by rw [← hz, fillTo_set], ← e2] at hs3
              have HS3 : Hid (Hp W (wr.setCell ⟨g2, k, none⟩ (.int .i64 0)) (rowA 21 .i32 g1 512 (fillTo f 512 (k + 1)) :: rowA 2 .i64 g2 512 (fillTo f 512 (k + 1)) :: synA s c lo br v :: slA 2 .i64 v tail :: lapA lo c 512 1 28 :: lapA br c 128 4 27 :: circA c :: rowA 2 .i64 gq cq QT :: rowA 2 .i64 gl n Z :: [])) := Lib.hid (by
                have := hs3.up1
                rw [e2] at this ⊢
                exact this)
              have fr3 := H.out.up1.row.free k
              have fc3 := H.out.up1.row.cell (i := k) (by rw [fillTo_len]; omega)
              rw [fillTo_at] at fc3
              clear hs1 hs2 hs3 hv hy HS1 HS2 fr2 fc2 dc e2 hz wy wy2 fb
              go_wp2_with fail
              go_roundw
              case rel => exact ⟨k + 1, by omega, by go_num, HS3⟩
              case measure => simp [intOf]; omega
            · have l2 : (0 : Int) < (len0 : Int) := by omega
              have l3 : ¬ (len0 : Int) = 0 := by omega
              have l4 : ((len0 : Int) == 0) = false := by rw [beq_eq_false_iff_ne]; omega
              have l5 : (len0 : Int) ≠ 0 := by omega
              obtain ⟨m, hm⟩ : ∃ m : Nat, (n0 + k) % len0 = m := ⟨_, rfl⟩
              have ml : m < len0 := by rw [← hm]; exact Nat.mod_lt _ (by omega)
              have e2 : Int.tmod ((n0 : Int) + (k : Int)) (len0 : Int) = (m : Int) := by rw [Int.tmod_eq_emod_of_nonneg (by omega), ← hm, Int.natCast_emod]; rfl
              have e3 : ((n0 : Int) + (k : Int)) % (len0 : Int) = (m : Int) := by rw [← hm, Int.natCast_emod]; rfl
              have e4 : IntKind.i64.wrap ((n0 : Int) + (k : Int)) = (n0 : Int) + k := wrapI64 (by omega) (by omega)
              have e5 : IntKind.i64.wrap (m : Int) = m := wrapI64 (by omega) (by omega)
              have hz : f k = Int.tmod (ys.getD m 0) 33554432 := by rw [hv]; unfold lineAt; rw [LN.out, if_neg h0, hm]
              obtain ⟨ad, rfl, hc⟩ := Src.at (Src.below RD.out H.out.b) (j := m) (by rw [LN.out]; exact ml)
              obtain ⟨x, hx⟩ : ∃ x, ys.getD m 0 = x := ⟨_, rfl⟩
              rw [hx] at hz hc
              rw [hy] at hz HS1 HS2 dc fr2 fc2
              have e6 : Int.tmod x 33554432 = y := hz.symm
              have mi : (m : Int) < (len0 : Int) := by omega
              have HM := Lib.hid hm
              clear hv hz hx hm hy hs1 hs2 fb
              go_wp2_with fail
              go_roundw
              case rel => exact ⟨k + 1, by omega, by go_num, HS2⟩
              case measure => simp [intOf]; omega
          · have ik : ¬ (k : Int) < 512 := by omega
            have E1 : Hid (k = 512) := Lib.hid (by omega)
            rw [E1.out] at H
            have LB := Lib.hid (fill_b FB.out (by decide) 512)
            have LL : Hid ((fillTo f 512 512).length = 512) := Lib.hid (fillTo_len _ _ _)
            obtain ⟨L, hL⟩ : ∃ L, fillTo f 512 512 = L := ⟨_, rfl⟩
            rw [hL] at H LB LL
            have H7 := Lib.hid (H.out.pk [2, 2, 0, 0, 0, 0, 0, 0, 0])
            clear hlt hk H hL FB HF
            go_wp2_with fail
            refine (Clone_h H7.out (by rw [TL.out]; decide)).mono ?_
            rintro e8 w8 ⟨s2, v2, rfl, h8⟩
            have H8 := Lib.hid (h8.pk [2, 2, 4, 4, 4, 2, 2, 0, 0, 0, 0])
            clear h8 H7
            go_wp2_with fail
            refine (Samples_h H8.out TL.out TB.out (Rd.rown LL.out) LL.out LB.out (in_within LB.out) b).mono ?_
            rintro e9 w9 ⟨gA, vA, rfl, h9⟩
            have H9 := Lib.hid (h9.pk [8, 8, 3, 3, 3, 3, 3, 0, 0, 0, 0, 0])
            clear h9 H8
            go_wp2_with fail
            refine (Samples_h H9.out TL.out TB.out (Rd.rown LL.out) LL.out LB.out (in_within LB.out) b).mono ?_
            rintro e10 w10 ⟨gB, vB, rfl, h10⟩
            have H10 := Lib.hid h10
            clear h10 H9
            go_wp2_with fail
            refine (Samples_bad s (some ⟨g1, 0, none⟩) 511 512 (by decide) b _).mono ?_
            rintro e11 w11 ⟨rfl, he⟩
            subst w11
            have sq := Src.of_sl (Sl.row (H10.out.pk [11]).row)
            rw [QT_length] at sq
            have sl := Src.of_sl (Sl.row (H10.out.pk [7]).row)
            rw [LL.out] at sl
            have C12 := Lib.hid (rSamples sq sl LL.out LB.out b (Src_off (H10.out.pk [12]).row cl 128 ZL.out ZD.out) TL.out TB.out)
            clear sq sl
            go_wp2_with fail
            refine C12.out.mono ?_
            rintro e12 w12 ⟨gx, vw, rfl, h12⟩
            have XL := snd_len b L
            have XB := snd_b b LB.out
            obtain ⟨X, hX⟩ : ∃ X, snd b L = X := ⟨_, rfl⟩
            have h13 := (H10.out.join2 h12).pk [10, 2, 0, 0, 7, 7, 2, 2, 2, 4]
            rw [hX] at h13 XL XB
            have SD := Lib.hid (sumv_drop X tail XL)
            have SL : Hid ((sumv X tail).length = 640) := Lib.hid (by unfold sumv; rw [List.length_map, List.length_range])
            have OL : Hid ((outv X tail).length = 512) := Lib.hid (by unfold outv; rw [List.length_map, List.length_range])
            have OB : Hid (∀ j, -32768 ≤ (outv X tail).getD j 0 ∧ (outv X tail).getD j 0 ≤ 32767) := Lib.hid (fun j => by
              by_cases hj : j < 512
              · rw [outv_at _ _ _ hj]; exact clamp_bd (by decide) _
              · rw [List.getD_eq_getElem?_getD, List.getElem?_eq_none (by rw [OL.out]; omega)]; decide)
            have OL0 : Hid ((outv X tail).length = 512) := OL
            obtain ⟨O, hO⟩ : ∃ O, outv X tail = O := ⟨_, rfl⟩
            obtain ⟨S, hS⟩ : ∃ S, sumv X tail = S := ⟨_, rfl⟩
            obtain ⟨Aw, cw, rfl, _⟩ := (h13.pk [2]).sl.form
            rw [hO] at h13 OL OB
            rw [hS] at h13 SD SL
            have HXL := Lib.hid XL
            have HXB := Lib.hid XB
            rw [OL.out] at h13
            have H13 := Lib.hid h13
            have HO := Lib.hid hO
            clear h12 h13 C12 H10 hX hO hS XL XB
            rw [OL0.out]
            have H14 : Hid (Hp W w12 (rowA 49 .i16 gA 512 O :: rowA 49 .i16 gB 512 O :: slA 2 .i64 (.slice Aw 512 cw) O :: rowA 2 .i64 gx 640 S :: synA s c lo br vA :: slA 2 .i64 vA (X.drop 512) :: lapA lo c 512 1 28 :: lapA br c 128 4 27 :: circA c :: rowA 2 .i64 gq cq QT :: [])) := H13
            clear H13 OL0
            go_wp2_with fail
            go_loopw [132] (fun u wr => ∃ k : Nat, k ≤ 512 ∧ u = .int .i64 (k : Int) ∧ Hid (Hp W wr (rowA 49 .i16 gA 512 O :: rowA 49 .i16 gB 512 O :: slA 2 .i64 (.slice Aw 512 cw) O :: rowA 2 .i64 gx 640 S :: synA s c lo br vA :: slA 2 .i64 vA (X.drop 512) :: lapA lo c 512 1 28 :: lapA br c 128 4 27 :: circA c :: rowA 2 .i64 gq cq QT :: []))) (fun u _ => 512 - (intOf u).toNat)
            case atStart => exact ⟨0, by omega, rfl, H14⟩
            case round =>
              clear H14
              obtain ⟨k, hk, rfl, H⟩ := hrel
              by_cases hlt : k < 512
              · have ik : (k : Int) < 512 := by omega
                have d1 := H.out.row.cell (i := k) (by rw [OL.out]; exact hlt)
                have d2 := H.out.up1.row.cell (i := k) (by rw [OL.out]; exact hlt)
                obtain ⟨ad, rfl, d3⟩ := Src.at (Src.of_sl H.out.up2.sl) (j := k) (by rw [OL.out]; exact hlt)
                have sg : O[k]'(by rw [OL.out]; exact hlt) = O.getD k 0 := by rw [List.getD_eq_getElem?_getD, List.getElem?_eq_getElem (by rw [OL.out]; exact hlt), Option.getD_some]
                rw [sg] at d1 d2
                have bx := OB.out k
                obtain ⟨x, hx⟩ : ∃ x, O.getD k 0 = x := ⟨_, rfl⟩
                rw [hx] at d1 d2 d3 bx
                have w1 : IntKind.i64.wrap x = x := wrapI64 (by omega) (by omega)
                clear hx sg
                go_wp2_with fail
                go_quiet (fail)
                clear w1
                go_wp2_with fail
                go_roundw
                case rel => exact ⟨k + 1, by omega, by go_num, Lib.hid (H.out.drewN _)⟩
                case measure => simp [intOf]; omega
              · have ik : ¬ (k : Int) < 512 := by omega
                have HN : Hid (∃ v tail gl n off cl Z, tail.length = 128 ∧ (∀ j, -4294967296 ≤ tail.getD j 0 ∧ tail.getD j 0 ≤ 4294967296) ∧ Z.drop off = tail ∧ Z.length = off + 128 ∧ (.slice (some ⟨gx, 512, none⟩) 128 128 : Value) = .slice (some ⟨gl, off, none⟩) 128 cl ∧ Hp W wr (synA s c lo br v :: slA 2 .i64 v tail :: lapA lo c 512 1 28 :: lapA br c 128 4 27 :: circA c :: rowA 2 .i64 gq cq QT :: rowA 2 .i64 gl n Z :: [])) := Lib.hid ⟨vA, X.drop 512, gx, 640, 512, 128, S, by rw [List.length_drop, HXL.out], fun j => by
                  have := HXB.out (512 + j)
                  rw [List.getD_eq_getElem?_getD, List.getElem?_drop, ← List.getD_eq_getElem?_getD]
                  exact this, SD.out, SL.out, rfl, H.out.pk [4, 4, 4, 4, 4, 4, 3]⟩
                clear hlt hk H
                go_wp2_with fail
                go_roundw
                case rel => exact ⟨i + 1, by omega, by go_num, HN⟩
                case measure => simp [intOf]; omega
    · have ik : ¬ (i : Int) < (len1 : Int) := by omega
      obtain ⟨v, tail, gl, n, off, cl, Z, _, _, _, _, _, h⟩ := HX.out
      have HB := Lib.hid h.b
      clear HX h
      go_wp2_with fail
      go_ret
      exact ⟨rfl, HB.out⟩
end Go.Proofs.Ytngldpeapcbbpaa.Lap

/-
  Law 9: OverlapAgain; walks. No condition but that the arguments are of their kinds.
-/
set_option linter.unusedVariables false
set_option linter.unusedSimpArgs false
namespace Go.Proofs.Ytngldpeapcbbpaa.Lap
open Go.RowKit Go.Proofs.Ytngldpeapcbbpaa Go.Proofs.Ytngldpeapcbbpaa.Bnd Go.Proofs.Ytngldpeapcbbpaa.Art Go.Proofs.YtngldpeapcbbpaaW.PrintWords

/-- What is left fits what is past. -/
def Kept (past tail : List Int) : Prop := ∀ j, j < 128 → ∃ z, tail.getD j 0 = rdv 16777216 (z * risev ((127 - j : Nat) : Int)) ∧ -1100 ≤ z - (rdv 16777216 (past.getD j 0 * risev ((127 - j : Nat) : Int)) + rdv 16777216 (past.getD (127 - j) 0 * risev (j : Int))) ∧ z - (rdv 16777216 (past.getD j 0 * risev ((127 - j : Nat) : Int)) + rdv 16777216 (past.getD (127 - j) 0 * risev (j : Int))) ≤ 1100
theorem rep_at (n j : Nat) : (List.replicate n (0 : Int)).getD j 0 = 0 := by
  rw [List.getD_eq_getElem?_getD, List.getElem?_replicate]
  split <;> rfl
theorem kept_none : Kept (List.replicate 128 0) (List.replicate 128 0) := fun j hj => by
  refine ⟨0, ?_, ?_⟩
  · rw [rep_at, Int.zero_mul]; rfl
  · rw [rep_at, rep_at, Int.zero_mul, Int.zero_mul]
    decide
theorem drop_at (X : List Int) (n j : Nat) : (X.drop n).getD j 0 = X.getD (n + j) 0 := by
  rw [List.getD_eq_getElem?_getD, List.getElem?_drop, ← List.getD_eq_getElem?_getD]
theorem kept_next {X : List Int} (xl : X.length = 640) (xb : ∀ j, -524288 ≤ X.getD j 0 ∧ X.getD j 0 ≤ 524288) (b : Bool) : Kept (X.drop 512) ((snd b (ovl b X)).drop 512) := fun j hj => by
  obtain ⟨z, h1, h2⟩ := snd_hi xl xb b hj
  rw [drop_at, drop_at, drop_at]
  exact ⟨z, h1, h2⟩
theorem heard_near' {X past tail : List Int} (xl : X.length = 640) (xb : ∀ j, -524288 ≤ X.getD j 0 ∧ X.getD j 0 ≤ 524288) (hp : ∀ j, j < 128 → past.getD j 0 = X.getD j 0) (hk : Kept past tail) (b : Bool) {k : Nat} (h512 : k < 512) :
    -2300 ≤ sumAt (snd b (ovl b X)) tail k - X.getD k 0 ∧ sumAt (snd b (ovl b X)) tail k - X.getD k 0 ≤ 2300 := by
  unfold sumAt
  split
  · rename_i h
    obtain ⟨z1, e1, f1⟩ := snd_lo xl xb b h
    obtain ⟨z2, e2, f2⟩ := hk k h
    rw [hp k h, hp (127 - k) (by omega)] at f2
    rw [e2, e1]
    exact tdac (xb k) (rise_bd _) (rise_bd _) (legs k h) f1 f2
  · exact snd_mid xl xb b (by omega) h512
/-- The sample that is wanted at a place. -/
def wantAt (ys : List Int) (t : Nat) : Int := if ys.length = 0 ∨ t < 128 then 0 else ys.getD ((t - 128) % ys.length) 0
theorem want_b {ys : List Int} (h : ∀ j, -32768 ≤ ys.getD j 0 ∧ ys.getD j 0 ≤ 32767) (t : Nat) : -32768 ≤ wantAt ys t ∧ wantAt ys t ≤ 32767 := by
  unfold wantAt
  split
  · decide
  · exact h _
theorem want_X {ys past : List Int} {n0 : Nat} (pl : past.length = 128) (hp : ∀ j, j < 128 → past.getD j 0 = 16 * wantAt ys (n0 + j)) (k : Nat) (hk : k < 640) : (past ++ fine16 (framev ys n0)).getD k 0 = 16 * wantAt ys (n0 + k) := by
  by_cases h : k < 128
  · rw [app_at0 (by omega), hp k h]
  · obtain ⟨j, rfl⟩ : ∃ j, k = 128 + j := ⟨k - 128, by omega⟩
    rw [app_at pl, fine_at, framev_at _ _ _ (by omega), Int.mul_comm]
    congr 1
    unfold frameAt wantAt
    by_cases h0 : ys.length = 0
    · rw [if_pos h0, if_pos (.inl h0)]
    · rw [if_neg h0, if_neg (by omega), show n0 + (128 + j) - 128 = n0 + j by omega]
theorem out_near {s x : Int} (h : -2300 ≤ s - 16 * x ∧ s - 16 * x ≤ 2300) (hx : -32768 ≤ x ∧ x ≤ 32767) : -600 ≤ clampv (-32768) 32767 (rdv 16 s) - x ∧ clampv (-32768) 32767 (rdv 16 s) - x ≤ 600 := by
  unfold clampv rdv
  split
  · omega
  · split <;> omega
attribute [local irreducible] cosv wgt qt QT risev turnv backv shapev accv prt snd ovl outv framev fine16 sumv Kept wantAt
set_option maxHeartbeats 4000000 in
set_option maxRecDepth 100000 in
theorem again9_law (a0 : Option Addr) (len0 cap0 : Nat) (z0 : List Int) (a1 : Option Addr) (len1 cap1 : Nat) (z1 : List Bool) (W : World) (h0 : IsRow .i16 W a0 len0 cap0 z0) (y0 : len0 * 2 ≤ 140737488351232) (h1 : Bools W a1 len1 cap1 z1) :
    Calls Try.prog 8 #[.slice a0 len0 cap0, .slice a1 len1 cap1] W fun e w' => e = .returned (.bool true) ∧ Below W.heap.size W w' := by
  by_cases hs : 3000 < len0 ∨ 5 < len1
  · by_cases hs0 : 3000 < len0
    · have k1 : decide ((3000 : Int) < (len0 : Int)) = true := decide_eq_true (by omega)
      go_enter Try.func8, Try.ntmps8
      go_wp2_with fail
      refine (lives9 _).mono ?_
      rintro e1 w1 ⟨rfl, b1⟩
      have H1 : Hid (Hp W w1 []) := Lib.hid ((Hp.nil W).keep b1)
      clear b1
      go_wp2_with fail
      refine (lives9 _).mono ?_
      rintro e2 w2 ⟨rfl, b2⟩
      have H2 := Lib.hid (H1.out.keep b2)
      clear b2
      go_wp2_with fail
      go_ret
      exact ⟨rfl, H2.out.b⟩
    · have k1 : decide ((3000 : Int) < (len0 : Int)) = false := decide_eq_false (by omega)
      have k2 : decide ((5 : Int) < (len1 : Int)) = true := decide_eq_true (by omega)
      go_enter Try.func8, Try.ntmps8
      go_wp2_with fail
      refine (lives9 _).mono ?_
      rintro e1 w1 ⟨rfl, b1⟩
      have H1 : Hid (Hp W w1 []) := Lib.hid ((Hp.nil W).keep b1)
      clear b1
      go_wp2_with fail
      refine (lives9 _).mono ?_
      rintro e2 w2 ⟨rfl, b2⟩
      have H2 := Lib.hid (H1.out.keep b2)
      clear b2
      go_wp2_with fail
      go_ret
      exact ⟨rfl, H2.out.b⟩
  have k1 : decide ((3000 : Int) < (len0 : Int)) = false := decide_eq_false (by omega)
  have k2 : decide ((5 : Int) < (len1 : Int)) = false := decide_eq_false (by omega)
  have l5 : len1 ≤ 5 := by omega
  have l3 : len0 ≤ 3000 := by omega
  have RD := Lib.hid h0.src
  have LN := Lib.hid h0.take_len
  have BO := Lib.hid h1
  have B16 := Lib.hid (i16_bd h0)
  clear h0 y0 h1
  generalize z0.take len0 = ys at *
  go_enter Try.func8, Try.ntmps8
  go_wp2_with fail
  refine (lives9 _).mono ?_
  rintro e1 w1 ⟨rfl, b1⟩
  have H1 : Hid (Hp W w1 []) := Lib.hid ((Hp.nil W).keep b1)
  clear b1
  go_wp2_with fail
  refine (NewAnalyser_h H1.out).mono ?_
  rintro e2 w2 ⟨a, c, lo, br, v, rfl, h2⟩
  have H2 := Lib.hid h2
  clear h2 H1
  go_wp2_with fail
  refine (NewSynth_h H2.out).mono ?_
  rintro e3 w3 ⟨s, c2, lo2, br2, v2, rfl, h3⟩
  have H3 : Hid (∃ v past v2 tail, past.length = 128 ∧ (∀ j, j < 128 → past.getD j 0 = 16 * wantAt ys (512 * 0 + j)) ∧ tail.length = 128 ∧ (∀ j, -4294967296 ≤ tail.getD j 0 ∧ tail.getD j 0 ≤ 4294967296) ∧ Kept past tail ∧ (∀ j, -524288 ≤ past.getD j 0 ∧ past.getD j 0 ≤ 524288) ∧ Hp W w3 (anaA a c lo br v :: slA 21 .i32 v past :: lapA lo c 512 1 28 :: lapA br c 128 4 27 :: circA c :: synA s c2 lo2 br2 v2 :: slA 2 .i64 v2 tail :: lapA lo2 c2 512 1 28 :: lapA br2 c2 128 4 27 :: circA c2 :: [])) := Lib.hid ⟨v, List.replicate 128 0, v2, List.replicate 128 0, by simp, fun j hj => by rw [rep_at]; unfold wantAt; rw [if_pos (by omega)]; rfl, by simp, rep_bd' 128, kept_none, rep_bd 128, h3.pk [5, 5, 5, 5, 5, 0, 0, 0, 0, 0]⟩
  clear h3 H2
  go_wp2_with fail
  go_loopw [35] (fun u wr => ∃ i : Nat, i ≤ len1 ∧ u = .int .i64 (i : Int) ∧ Hid (∃ v past v2 tail, past.length = 128 ∧ (∀ j, j < 128 → past.getD j 0 = 16 * wantAt ys (512 * i + j)) ∧ tail.length = 128 ∧ (∀ j, -4294967296 ≤ tail.getD j 0 ∧ tail.getD j 0 ≤ 4294967296) ∧ Kept past tail ∧ (∀ j, -524288 ≤ past.getD j 0 ∧ past.getD j 0 ≤ 524288) ∧ Hp W wr (anaA a c lo br v :: slA 21 .i32 v past :: lapA lo c 512 1 28 :: lapA br c 128 4 27 :: circA c :: synA s c2 lo2 br2 v2 :: slA 2 .i64 v2 tail :: lapA lo2 c2 512 1 28 :: lapA br2 c2 128 4 27 :: circA c2 :: []))) (fun u _ => len1 - (intOf u).toNat)
  case atStart => exact ⟨0, by omega, rfl, H3⟩
  case round =>
    clear H3
    obtain ⟨i, hi, rfl, HX⟩ := hrel
    by_cases hlt : i < len1
    · have ii : (i : Int) < (len1 : Int) := by omega
      obtain ⟨v, past, v2, tail, pl, pw, tl, tb, kp, pb, h⟩ := HX.out
      obtain ⟨x1, rfl, hb⟩ := Bools.at BO.out h.b hlt
      obtain ⟨b, hbb⟩ : ∃ b, z1.getD i false = b := ⟨_, rfl⟩
      rw [hbb] at hb
      obtain ⟨n0, hn0⟩ : ∃ n0 : Nat, n0 = 512 * i := ⟨_, rfl⟩
      have n1 : n0 ≤ 100000 := by omega
      have e1 : IntKind.i64.wrap (512 * (i : Int)) = (n0 : Int) := by rw [wrapI64 (by omega) (by omega)]; omega
      rw [← hn0] at pw
      have H := Lib.hid h
      have PL := Lib.hid pl
      have PW := Lib.hid pw
      have TL := Lib.hid tl
      have TB := Lib.hid tb
      have KP := Lib.hid kp
      have PB := Lib.hid pb
      have HN := Lib.hid hn0
      clear HX h pl pw tl tb kp pb hbb hn0
      go_wp2_with fail
      refine (Frame_h H.out (Rd.arg RD.out) LN.out (by omega) n0 n1).mono ?_
      rintro e5 w5 ⟨gp, rfl, h5⟩
      have FL := Lib.hid (framev_len ys n0)
      have FB := Lib.hid (frame_b B16.out n0)
      have WX := Lib.hid (fun k hk => want_X PL.out PW.out k hk)
      obtain ⟨pcm, hp⟩ : ∃ pcm, framev ys n0 = pcm := ⟨_, rfl⟩
      rw [hp] at h5 FL FB WX
      have H5 := Lib.hid (h5.pk [1, 1, 1, 1, 1, 0, 0, 0, 0, 0, 0])
      clear h5 hp H hb
      go_wp2_with fail
      refine (Lines_h H5.out PL.out PB.out (Rd.rown FL.out) FL.out FB.out b).mono ?_
      rintro e6 w6 ⟨gl, v6, rfl, h6⟩
      have XL : Hid ((past ++ fine16 pcm).length = 640) := Lib.hid (by rw [List.length_append, fine_len, PL.out, FL.out])
      have XB : Hid (∀ j, -524288 ≤ (past ++ fine16 pcm).getD j 0 ∧ (past ++ fine16 pcm).getD j 0 ≤ 524288) := Lib.hid (app_bd PB.out (fine_bd FB.out))
      have PX : Hid (∀ j, j < 128 → past.getD j 0 = (past ++ fine16 pcm).getD j 0) := Lib.hid (fun j hj => (app_at0 (by rw [PL.out]; exact hj)).symm)
      obtain ⟨X, hX⟩ : ∃ X, past ++ fine16 pcm = X := ⟨_, rfl⟩
      rw [hX] at h6 XL XB PX WX
      have LL := Lib.hid (ovl_len b X)
      have LB := Lib.hid (ovl_b b X)
      have NR : Hid (∀ k, k < 512 → -600 ≤ (outv (snd b (ovl b X)) tail).getD k 0 - wantAt ys (n0 + k) ∧ (outv (snd b (ovl b X)) tail).getD k 0 - wantAt ys (n0 + k) ≤ 600) := Lib.hid (fun k hk => by
        rw [outv_at _ _ _ hk]
        have h := heard_near' XL.out XB.out PX.out KP.out b hk
        rw [WX.out k (by omega)] at h
        exact out_near h (want_b B16.out _))
      have KN := Lib.hid (kept_next XL.out XB.out b)
      obtain ⟨L, hL⟩ : ∃ L, ovl b X = L := ⟨_, rfl⟩
      rw [hL] at h6 LL LB NR KN
      have H6 := Lib.hid (h6.pk [7, 7, 7, 7, 7, 0, 0, 0, 0, 0, 0])
      clear h6 hX hL H5
      go_wp2_with fail
      refine (Samples_h H6.out TL.out TB.out (Rd.rown LL.out) LL.out LB.out (in_within LB.out) b).mono ?_
      rintro e7 w7 ⟨go, v7, rfl, h7⟩
      have SL := Lib.hid (snd_len b L)
      have SB := Lib.hid (snd_b b LB.out)
      have OL : Hid ((outv (snd b L) tail).length = 512) := Lib.hid (by unfold outv; rw [List.length_map, List.length_range])
      have OB : Hid (∀ j, j < 512 → -32768 ≤ (outv (snd b L) tail).getD j 0 ∧ (outv (snd b L) tail).getD j 0 ≤ 32767) := Lib.hid (fun j hj => by rw [outv_at _ _ _ hj]; exact clamp_bd (by decide) _)
      obtain ⟨O, hO⟩ : ∃ O, outv (snd b L) tail = O := ⟨_, rfl⟩
      obtain ⟨S, hS⟩ : ∃ S, snd b L = S := ⟨_, rfl⟩
      rw [hO] at h7 OL OB NR
      rw [hS] at h7 SL SB KN
      have H7 : Hid (Hp W w7 (rowA 49 .i16 go 512 O :: anaA a c lo br v6 :: slA 21 .i32 v6 (X.drop 512) :: lapA lo c 512 1 28 :: lapA br c 128 4 27 :: circA c :: synA s c2 lo2 br2 v7 :: slA 2 .i64 v7 (S.drop 512) :: lapA lo2 c2 512 1 28 :: lapA br2 c2 128 4 27 :: circA c2 :: [])) := Lib.hid (h7.pk [0, 6, 6, 6, 6, 6, 0, 0, 0, 0, 0])
      clear h7 H6 hO hS
      go_wp2_with fail
      go_loopw [70] (fun u wr => ∃ k : Nat, k ≤ 512 ∧ u = .int .i64 (k : Int) ∧ Hid (Hp W wr (rowA 49 .i16 go 512 O :: anaA a c lo br v6 :: slA 21 .i32 v6 (X.drop 512) :: lapA lo c 512 1 28 :: lapA br c 128 4 27 :: circA c :: synA s c2 lo2 br2 v7 :: slA 2 .i64 v7 (S.drop 512) :: lapA lo2 c2 512 1 28 :: lapA br2 c2 128 4 27 :: circA c2 :: []))) (fun u _ => 512 - (intOf u).toNat)
      case atStart => exact ⟨0, by omega, rfl, H7⟩
      case round =>
        clear H7
        obtain ⟨k, hk, rfl, H⟩ := hrel
        by_cases hlt : k < 512
        · have ik : (k : Int) < 512 := by omega
          have d1 := H.out.row.cell (i := k) (by rw [OL.out]; exact hlt)
          have sg : O[k]'(by rw [OL.out]; exact hlt) = O.getD k 0 := by rw [List.getD_eq_getElem?_getD, List.getElem?_eq_getElem (by rw [OL.out]; exact hlt), Option.getD_some]
          rw [sg] at d1
          have bx := OB.out k hlt
          have nr := NR.out k hlt
          have wb := want_b B16.out (n0 + k)
          obtain ⟨x, hx⟩ : ∃ x, O.getD k 0 = x := ⟨_, rfl⟩
          rw [hx] at d1 bx nr
          obtain ⟨t, ht⟩ : ∃ t : Nat, t = n0 + k := ⟨_, rfl⟩
          rw [← ht] at nr wb
          obtain ⟨y, hy⟩ : ∃ y, wantAt ys t = y := ⟨_, rfl⟩
          rw [hy] at nr wb
          obtain ⟨at_, hat⟩ : ∃ at_ : Int, at_ = (t : Int) - 128 := ⟨_, rfl⟩
          have e2 : IntKind.i64.wrap ((n0 : Int) + (k : Int)) = (t : Int) := by rw [wrapI64 (by omega) (by omega)]; omega
          have e3 : IntKind.i64.wrap ((t : Int) - 128) = at_ := by rw [wrapI64 (by omega) (by omega)]; omega
          have w1 : wrap64 x = x := by unfold wrap64; omega
          have w3 : wrap64 y = y := by unfold wrap64; omega
          have w2 : IntKind.i64.wrap (x - y) = x - y := wrapI64 (by omega) (by omega)
          have q1 : decide ((600 : Int) < x - y) = false := decide_eq_false (by omega)
          have q2 : decide (x - y < (-600 : Int)) = false := decide_eq_false (by omega)
          have HY := Lib.hid hy
          have HT := Lib.hid ht
          clear hx sg hy
          by_cases ta : t < 128
          · have a1 : decide ((0 : Int) ≤ at_) = false := decide_eq_false (by omega)
            have yz : y = 0 := by rw [← HY.out]; unfold wantAt; rw [if_pos (.inr ta)]
            subst yz
            have w2' : IntKind.i64.wrap x = x := wrapI64 (by omega) (by omega)
            have q1' : decide ((600 : Int) < x) = false := decide_eq_false (by omega)
            have q2' : decide (x < (-600 : Int)) = false := decide_eq_false (by omega)
            clear ht ta hat nr wb
            go_wp2_with fail
            go_roundw
            case rel => exact ⟨k + 1, by omega, by go_num, H⟩
            case measure => simp [intOf]; omega
          · obtain ⟨q, hq⟩ : ∃ q : Nat, q = t - 128 := ⟨_, rfl⟩
            obtain rfl : at_ = (q : Int) := by omega
            have a1 : decide ((0 : Int) ≤ (q : Int)) = true := decide_eq_true (by omega)
            by_cases h0 : len0 = 0
            · have l1 : decide ((0 : Int) < (len0 : Int)) = false := decide_eq_false (by omega)
              have yz : y = 0 := by rw [← HY.out]; unfold wantAt; rw [LN.out, if_pos (.inl h0)]
              subst yz
              have w2' : IntKind.i64.wrap x = x := wrapI64 (by omega) (by omega)
              have q1' : decide ((600 : Int) < x) = false := decide_eq_false (by omega)
              have q2' : decide (x < (-600 : Int)) = false := decide_eq_false (by omega)
              clear ht ta hat nr wb hq
              go_wp2_with fail
              go_roundw
              case rel => exact ⟨k + 1, by omega, by go_num, H⟩
              case measure => simp [intOf]; omega
            · have l2 : decide ((0 : Int) < (len0 : Int)) = true := decide_eq_true (by omega)
              have l3 : ¬ (len0 : Int) = 0 := by omega
              have l4 : ((len0 : Int) == 0) = false := by rw [beq_eq_false_iff_ne]; omega
              have l5 : (len0 : Int) ≠ 0 := by omega
              obtain ⟨m, hm⟩ : ∃ m : Nat, q % len0 = m := ⟨_, rfl⟩
              have ml : m < len0 := by rw [← hm]; exact Nat.mod_lt _ (by omega)
              have e4 : Int.tmod (q : Int) (len0 : Int) = (m : Int) := by rw [Int.tmod_eq_emod_of_nonneg (by omega), ← hm, Int.natCast_emod]
              have e5 : (q : Int) % (len0 : Int) = (m : Int) := by rw [← hm, Int.natCast_emod]
              have e6 : IntKind.i64.wrap (m : Int) = m := wrapI64 (by omega) (by omega)
              have yz : ys.getD m 0 = y := by rw [← HY.out]; unfold wantAt; rw [LN.out, if_neg (by omega), ← hq, hm]
              obtain ⟨ad, rfl, hc⟩ := Src.at (Src.below RD.out H.out.b) (j := m) (by rw [LN.out]; exact ml)
              rw [yz] at hc
              have mi : (m : Int) < (len0 : Int) := by omega
              have w1' : IntKind.i64.wrap x = x := wrapI64 (by omega) (by omega)
              have w3' : IntKind.i64.wrap y = y := wrapI64 (by omega) (by omega)
              clear ht ta hat nr wb hq hm yz
              go_wp2_with fail
              go_roundw
              case rel => exact ⟨k + 1, by omega, by go_num, H⟩
              case measure => simp [intOf]; omega
        · have ik : ¬ (k : Int) < 512 := by omega
          have HNX : Hid (∃ v past v2 tail, past.length = 128 ∧ (∀ j, j < 128 → past.getD j 0 = 16 * wantAt ys (512 * (i + 1) + j)) ∧ tail.length = 128 ∧ (∀ j, -4294967296 ≤ tail.getD j 0 ∧ tail.getD j 0 ≤ 4294967296) ∧ Kept past tail ∧ (∀ j, -524288 ≤ past.getD j 0 ∧ past.getD j 0 ≤ 524288) ∧ Hp W wr (anaA a c lo br v :: slA 21 .i32 v past :: lapA lo c 512 1 28 :: lapA br c 128 4 27 :: circA c :: synA s c2 lo2 br2 v2 :: slA 2 .i64 v2 tail :: lapA lo2 c2 512 1 28 :: lapA br2 c2 128 4 27 :: circA c2 :: [])) := Lib.hid ⟨v6, X.drop 512, v7, S.drop 512, by rw [List.length_drop, XL.out], fun j hj => by
            rw [drop_at, WX.out _ (by omega), show n0 + (512 + j) = 512 * (i + 1) + j by have := HN.out; omega], by rw [List.length_drop, SL.out], fun j => by rw [drop_at]; exact SB.out _, KN.out, fun j => by rw [drop_at]; exact XB.out _, H.out.pk [1, 1, 1, 1, 1, 1, 1, 1, 1, 1]⟩
          clear hlt hk H
          go_wp2_with fail
          go_roundw
          case rel => exact ⟨i + 1, by omega, by go_num, HNX⟩
          case measure => simp [intOf]; omega
    · have ik : ¬ (i : Int) < (len1 : Int) := by omega
      obtain ⟨v, past, v2, tail, _, _, _, _, _, _, h⟩ := HX.out
      have HB := Lib.hid h.b
      clear HX h
      go_wp2_with fail
      go_ret
      exact ⟨rfl, HB.out⟩
end Go.Proofs.Ytngldpeapcbbpaa.Lap

/-
  Law 8: LappedArgs; its walk. No condition but that the arguments are of their kinds.
-/
set_option linter.unusedVariables false
set_option linter.unusedSimpArgs false
namespace Go.Proofs.Ytngldpeapcbbpaa.Lap
open Go.RowKit Go.Proofs.Ytngldpeapcbbpaa Go.Proofs.Ytngldpeapcbbpaa.Bnd Go.Proofs.Ytngldpeapcbbpaa.Art Go.Proofs.YtngldpeapcbbpaaW.PrintWords

attribute [local irreducible] cosv wgt qt QT oneLine turnv backv fwdv fillv within
theorem Forward_nil (v : Value) (w : World) : Calls Try.prog 22 #[.pointer none, v] w fun e w' => e = .returned (.tuple #[.slice none 0 0, .int .i64 1]) ∧ w' = w := by
  go_enter Try.func22, Try.ntmps22
  go_wp2_with fail
  go_ret2
  exact ⟨rfl, rfl⟩
theorem Back_nil (v : Value) (w : World) : Calls Try.prog 18 #[.pointer none, v] w fun e w' => e = .returned (.tuple #[.slice none 0 0, .int .i64 1]) ∧ w' = w := by
  go_enter Try.func18, Try.ntmps18
  go_wp2_with fail
  go_ret2
  exact ⟨rfl, rfl⟩
/-- What an answer's number is. -/
def cdq (q : Bool) : Int := if q then 0 else 1
set_option maxHeartbeats 1000000 in
theorem Fwd_any {w : World} {t c : Nat} (h : IsLap w t c 128 4 27) {A : Option Addr} {len cap : Nat} {x : List Int} (src : Src w .i32 (.slice A len cap) x) (hl : x.length = len) (hm : len ≤ 1000) (b32 : ∀ j, -2147483648 ≤ x.getD j 0 ∧ x.getD j 0 ≤ 2147483647) (q : Bool) (hq : (within 1048576 x && ((len : Int) == 256)) = q) :
    Calls Try.prog 22 #[.pointer (some ⟨t, 0, none⟩), .slice A len cap] w fun e w' => ∃ v, e = .returned (.tuple #[v, .int .i64 (cdq q)]) ∧ Below w.heap.size w w' := by
  cases q with
  | true =>
    rw [Bool.and_eq_true, beq_iff_eq] at hq
    obtain ⟨h1, h2⟩ := hq
    obtain rfl : len = 256 := by omega
    refine (Forward128 h src hl h1).mono ?_
    rintro e w' ⟨g, rfl, _, _, b⟩
    exact ⟨_, rfl, b⟩
  | false =>
    have ht := h.blk.lt
    have c1 := h.blk.cell (i := 1) rfl
    have C := Lib.hid (fits21 src hl (by omega) b32 256)
    have HQ := Lib.hid hq
    clear h src hl b32 hq
    go_enter Try.func22, Try.ntmps22
    go_wp2_with fail
    refine C.out.mono ?_
    rintro e1 w1 ⟨rfl, he⟩
    subst w1
    rw [HQ.out]
    go_wp2_with fail
    go_ret2
    exact ⟨_, rfl, Below.refl _ _⟩
set_option maxHeartbeats 1000000 in
theorem Back_any {w : World} {t c : Nat} (h : IsLap w t c 128 4 27) {A : Option Addr} {len cap : Nat} {x : List Int} (src : Src w .i32 (.slice A len cap) x) (hl : x.length = len) (hm : len ≤ 1000) (b32 : ∀ j, -2147483648 ≤ x.getD j 0 ∧ x.getD j 0 ≤ 2147483647) (q : Bool) (hq : (within 33554432 x && ((len : Int) == 128)) = q) :
    Calls Try.prog 18 #[.pointer (some ⟨t, 0, none⟩), .slice A len cap] w fun e w' => ∃ v, e = .returned (.tuple #[v, .int .i64 (cdq q)]) ∧ Below w.heap.size w w' := by
  cases q with
  | true =>
    rw [Bool.and_eq_true, beq_iff_eq] at hq
    obtain ⟨h1, h2⟩ := hq
    obtain rfl : len = 128 := by omega
    refine (Back128 h src hl h1).mono ?_
    rintro e w' ⟨g, rfl, _, _, b⟩
    exact ⟨_, rfl, b⟩
  | false =>
    have ht := h.blk.lt
    have c1 := h.blk.cell (i := 1) rfl
    have C := Lib.hid (fits26 src hl (by omega) b32 128)
    have HQ := Lib.hid hq
    clear h src hl b32 hq
    go_enter Try.func18, Try.ntmps18
    go_wp2_with fail
    refine C.out.mono ?_
    rintro e1 w1 ⟨rfl, he⟩
    subst w1
    rw [HQ.out]
    go_wp2_with fail
    go_ret2
    exact ⟨_, rfl, Below.refl _ _⟩
theorem within_set {m x : Int} {s i : Nat} (hm : 0 < m) (hi : i < s) : within m ((List.replicate s (0 : Int)).set i x) = (decide (-m ≤ x) && decide (x < m)) := by
  rw [Bool.eq_iff_iff]
  unfold within
  rw [List.all_eq_true]
  constructor
  · intro h
    exact h x (by
      rw [List.mem_iff_getElem]
      exact ⟨i, by simpa using hi, by simp⟩)
  · intro h y hy
    rcases List.mem_or_eq_of_mem_set hy with h1 | h1
    · obtain rfl := List.eq_of_mem_replicate h1
      simp; omega
    · subst h1; exact h
theorem set_b32 {x : Int} {s i : Nat} (h : -2147483648 ≤ x ∧ x ≤ 2147483647) (j : Nat) : -2147483648 ≤ ((List.replicate s (0 : Int)).set i x).getD j 0 ∧ ((List.replicate s (0 : Int)).set i x).getD j 0 ≤ 2147483647 := by
  rw [List.getD_eq_getElem?_getD, List.getElem?_set]
  split
  · split
    · exact h
    · decide
  · rw [List.getElem?_replicate]
    split <;> decide
set_option maxHeartbeats 4000000 in
set_option maxRecDepth 100000 in
theorem args_law (n k at_ x : Int) (W : World) (wn : (Lit.int .i64 n).wf = true) (wk : (Lit.int .i64 k).wf = true) (wa : (Lit.int .i64 at_).wf = true) (wx : (Lit.int .i32 x).wf = true) :
    Calls Try.prog 6 #[.int .i64 n, .agg #[.int .i64 k, .int .i64 at_], .int .i32 x] W fun e w' => e = .returned (.bool true) ∧ Below W.heap.size W w' := by
  have bx : -2147483648 ≤ x ∧ x ≤ 2147483647 := by
    simp only [Lit.wf, Bool.and_eq_true, decide_eq_true_eq] at wx
    have e1 : IntKind.min .i32 = -2147483648 := by decide
    have e2 : IntKind.max .i32 = 2147483647 := by decide
    rw [e1, e2] at wx
    exact wx
  obtain ⟨u, hu⟩ : ∃ u : Nat, IntKind.u64.wrap k = (u : Int) := ⟨(IntKind.u64.wrap k).toNat, by rw [IntKind.wrap_u64]; omega⟩
  obtain ⟨v, hv⟩ : ∃ v : Nat, IntKind.u64.wrap at_ = (v : Int) := ⟨(IntKind.u64.wrap at_).toNat, by rw [IntKind.wrap_u64]; omega⟩
  have vb : (v : Int) < 18446744073709551616 := by rw [← hv, IntKind.wrap_u64]; omega
  obtain ⟨s, hs⟩ : ∃ s : Nat, s = u % 300 := ⟨_, rfl⟩
  obtain ⟨i, hi⟩ : ∃ i : Nat, i = v % s := ⟨_, rfl⟩
  have sb : s < 300 := by omega
  have s1 : Int.tmod (u : Int) 300 = (s : Int) := by rw [Int.tmod_eq_emod_of_nonneg (Int.natCast_nonneg _), hs]; rfl
  have s2 : (u : Int) % 300 = (s : Int) := by omega
  have s4 : IntKind.u64.wrap (s : Int) = s := by rw [IntKind.wrap_u64]; omega
  have i1 : Int.tmod (v : Int) (s : Int) = (i : Int) := by rw [Int.tmod_eq_emod_of_nonneg (Int.natCast_nonneg _), hi]; exact (Int.natCast_emod v s).symm
  have i2 : (v : Int) % (s : Int) = (i : Int) := by rw [hi]; exact (Int.natCast_emod v s).symm
  have i0 : 0 < s → i < s := fun h => by rw [hi]; exact Nat.mod_lt _ h
  have hm := mk32 s (by omega)
  have I0 := Lib.hid i0
  have WX := Lib.hid wx
  have HU := Lib.hid hu
  have HV := Lib.hid hv
  have S1 := Lib.hid s1
  have S2 := Lib.hid s2
  have S4 := Lib.hid s4
  have I1 := Lib.hid i1
  have I2 := Lib.hid i2
  clear wk wa wx hs hi i0 vb hu hv s1 s2 s4 i1 i2
  go_enter Try.func6, Try.ntmps6
  go_wp2_with fail
  go_quiet (fail)
  go_wp2_with fail
  refine (lives_calls _).mono ?_
  rintro e1 w1 ⟨rfl, b1⟩
  have H1 : Hid (Hp W w1 []) := Lib.hid ((((Hp.nil W).alloc _).drewN _).keep b1)
  clear b1
  go_wp2_with fail
  refine (Circ_h H1.out).mono ?_
  rintro e2 w2 ⟨g, rfl, h2⟩
  have H2 := Lib.hid h2
  clear h2 H1
  go_wp2_with fail
  have CN : Hid (∀ w3, w3 = w2 → Hp W w3 [circA g]) := Lib.hid (fun w3 e => by rw [e]; exact H2.out)
  rcases (show n = 128 ∨ n = 512 ∨ (n ≠ 128 ∧ n ≠ 512) by omega) with rfl | rfl | ⟨n1, n2⟩
  focus (
    refine (Lap_h H2.out 128 4 27 (.inl ⟨rfl, rfl, rfl⟩)).mono ?_
    rintro e3 w3 ⟨t0, rfl, h3⟩
    have H3 : Hid (Hp W w3 [circA g]) := Lib.hid (h3.pk [1])
    clear h3 CN H2)
  rotate_left
  focus (
    refine (Lap_h H2.out 512 1 28 (.inr ⟨rfl, rfl, rfl⟩)).mono ?_
    rintro e3 w3 ⟨t0, rfl, h3⟩
    have H3 : Hid (Hp W w3 [circA g]) := Lib.hid (h3.pk [1])
    clear h3 CN H2)
  rotate_left
  focus (
    refine (New_no n n1 n2 _).mono ?_
    rintro e3 w3 ⟨rfl, he⟩
    have H3 : Hid (Hp W w3 [circA g]) := Lib.hid (CN.out _ he)
    have k1 : (n == 128) = false := by rw [beq_eq_false_iff_ne]; exact n1
    have k2 : (n == 512) = false := by rw [beq_eq_false_iff_ne]; exact n2
    clear he n1 n2 CN H2)
  rotate_left
  all_goals
    go_wp2_with fail
    refine (Forward_nil _ _).mono ?_
    rintro e4 w4 ⟨rfl, he⟩
    subst w4
    go_wp2_with fail
    refine (Back_nil _ _).mono ?_
    rintro e4 w4 ⟨rfl, he⟩
    subst w4
    go_wp2_with fail
    refine (New_nil _).mono ?_
    rintro e4 w4 ⟨rfl, he⟩
    subst w4
    go_wp2_with fail
    refine (Lap_h H3.out 128 4 27 (.inl ⟨rfl, rfl, rfl⟩)).mono ?_
    rintro e5 w5 ⟨t, rfl, h5⟩
    have H5 := Lib.hid h5
    clear h5 H3
    have hu := HU.out
    have s1 := S1.out
    have H6 := Lib.hid (H5.out.new_row 21 .i32 s 0 (by unfold maxLen; omega))
    clear H5
    go_upto_if 89 with (fail)
    clear hu s1
    go_cut [] (fun wc => Hid (Hp W wc [rowA 21 .i32 w5.heap.size s ((List.replicate s 0).set i x), lapA t g 128 4 27, circA g]))
    case first =>
      by_cases s0 : 0 < s
      · have ii := I0.out s0
        have is1 : (0 : Int) < (s : Int) := by omega
        have is2 : (i : Int) < (s : Int) := by omega
        have is3 : ¬ (s : Int) = 0 := by omega
        have is4 : ((s : Int) == 0) = false := by rw [beq_eq_false_iff_ne]; omega
        have is5 : ¬ s = 0 := by omega
        have is6 : (s : Int) ≠ 0 := by omega
        have fr := H6.out.row.free i
        have fc := H6.out.row.cell (i := i) (by simpa using ii)
        have hs := H6.out.set i x
        rw [World.setCell_alloc_new] at hs
        have HS := Lib.hid hs
        clear hs
        have hv := HV.out
        have s4 := S4.out
        have i1 := I1.out
        go_wp2_with fail
        go_meet
        exact HS
      · obtain rfl : s = 0 := by omega
        have is1 : decide ((0 : Int) < ((0 : Nat) : Int)) = false := by decide
        go_wp2_with fail
        go_meet
        exact H6
    case rest =>
      clear H6
      have H6 := hcut
      clear hcut
      have LL : Hid (((List.replicate s (0 : Int)).set i x).length = s) := Lib.hid (by simp)
      have q1 : ∃ q, (within 1048576 ((List.replicate s (0 : Int)).set i x) && ((s : Int) == 256)) = q ∧ q = ((s : Int) == 256 && (decide (-1048576 ≤ x) && decide (x < 1048576))) := by
        refine ⟨_, rfl, ?_⟩
        by_cases h : (s : Int) = 256
        · rw [within_set (by decide) (I0.out (by omega)), Bool.and_comm]
        · have hb : ((s : Int) == 256) = false := by rw [beq_eq_false_iff_ne]; exact h
          rw [hb, Bool.and_false, Bool.false_and]
      have q2 : ∃ q, (within 33554432 ((List.replicate s (0 : Int)).set i x) && ((s : Int) == 128)) = q ∧ q = ((s : Int) == 128 && (decide (-33554432 ≤ x) && decide (x < 33554432))) := by
        refine ⟨_, rfl, ?_⟩
        by_cases h : (s : Int) = 128
        · rw [within_set (by decide) (I0.out (by omega)), Bool.and_comm]
        · have hb : ((s : Int) == 128) = false := by rw [beq_eq_false_iff_ne]; exact h
          rw [hb, Bool.and_false, Bool.false_and]
      obtain ⟨q1, e1, f1⟩ := q1
      obtain ⟨q2, e2, f2⟩ := q2
      have E1 := Lib.hid e1
      have E2 := Lib.hid e2
      have F1 := Lib.hid f1
      have F2 := Lib.hid f2
      clear e1 e2 f1 f2
      go_wp2_with fail
      refine (Fwd_any (Hp_lap (H6.out.pk [1, 1])) (by have := Src.of_sl (Sl.row H6.out.row); rw [LL.out] at this; exact this) LL.out (by omega) (set_b32 bx) q1 E1.out).mono ?_
      rintro e7 w7 ⟨v7, rfl, b7⟩
      have H7 := Lib.hid (H6.out.keep b7)
      clear b7 H6
      go_wp2_with fail
      refine (Back_any (Hp_lap (H7.out.pk [1, 1])) (by have := Src.of_sl (Sl.row H7.out.row); rw [LL.out] at this; exact this) LL.out (by omega) (set_b32 bx) q2 E2.out).mono ?_
      rintro e8 w8 ⟨v8, rfl, b8⟩
      have H8 := Lib.hid (H7.out.keep b8)
      clear b8 H7
      have f1 := F1.out
      have f2 := F2.out
      rcases (show (s : Int) = 256 ∨ (s : Int) = 128 ∨ ((s : Int) ≠ 256 ∧ (s : Int) ≠ 128) by omega) with h | h | ⟨h, h'⟩
      · have b2 : ((s : Int) == 128) = false := by rw [beq_eq_false_iff_ne]; omega
        have b1 : ((s : Int) == 256) = true := by rw [beq_iff_eq]; exact h
        rw [b1, Bool.true_and] at f1
        rw [b2, Bool.false_and] at f2
        subst f2
        by_cases h1 : -1048576 ≤ x
        · by_cases h2 : x < 1048576
          · rw [decide_eq_true h1, decide_eq_true h2] at f1
            subst f1
            rw [show cdq (true && true) = 0 from rfl, show cdq false = 1 from rfl]
            clear F1 F2 E1 E2
            go_wp2_with fail
            go_ret
            exact ⟨rfl, H8.out.b⟩
          · have d2 : decide (x < 1048576) = false := decide_eq_false h2
            rw [decide_eq_true h1, decide_eq_false h2] at f1
            subst f1
            rw [show cdq (true && false) = 1 from rfl, show cdq false = 1 from rfl]
            clear F1 F2 E1 E2
            go_wp2_with fail
            go_ret
            exact ⟨rfl, H8.out.b⟩
        · rw [decide_eq_false h1, Bool.false_and] at f1
          subst f1
          rw [show cdq false = 1 from rfl]
          clear F1 F2 E1 E2
          go_wp2_with fail
          go_ret
          exact ⟨rfl, H8.out.b⟩
      · have b2 : ((s : Int) == 128) = true := by rw [beq_iff_eq]; exact h
        have b1 : ((s : Int) == 256) = false := by rw [beq_eq_false_iff_ne]; omega
        rw [b1, Bool.false_and] at f1
        rw [b2, Bool.true_and] at f2
        subst f1
        by_cases h1 : -33554432 ≤ x
        · by_cases h2 : x < 33554432
          · rw [decide_eq_true h1, decide_eq_true h2] at f2
            subst f2
            rw [show cdq (true && true) = 0 from rfl, show cdq false = 1 from rfl]
            clear F1 F2 E1 E2
            go_wp2_with fail
            go_ret
            exact ⟨rfl, H8.out.b⟩
          · have d2 : decide (x < 33554432) = false := decide_eq_false h2
            rw [decide_eq_true h1, decide_eq_false h2] at f2
            subst f2
            rw [show cdq (true && false) = 1 from rfl, show cdq false = 1 from rfl]
            clear F1 F2 E1 E2
            go_wp2_with fail
            go_ret
            exact ⟨rfl, H8.out.b⟩
        · rw [decide_eq_false h1, Bool.false_and] at f2
          subst f2
          rw [show cdq false = 1 from rfl]
          clear F1 F2 E1 E2
          go_wp2_with fail
          go_ret
          exact ⟨rfl, H8.out.b⟩
      · have b2 : ((s : Int) == 128) = false := by rw [beq_eq_false_iff_ne]; exact h'
        have b1 : ((s : Int) == 256) = false := by rw [beq_eq_false_iff_ne]; exact h
        rw [b1, Bool.false_and] at f1
        rw [b2, Bool.false_and] at f2
        subst f1 f2
        rw [show cdq false = 1 from rfl]
        clear F1 F2 E1 E2
        go_wp2_with fail
        go_ret
        exact ⟨rfl, H8.out.b⟩
end Go.Proofs.Ytngldpeapcbbpaa.Lap

/-
  Law 9: OverlapArgs; walks. No condition but that the arguments are of their kinds.
-/
set_option linter.unusedVariables false
set_option linter.unusedSimpArgs false
namespace Go.Proofs.Ytngldpeapcbbpaa.Lap
open Go.RowKit Go.Proofs.Ytngldpeapcbbpaa Go.Proofs.Ytngldpeapcbbpaa.Bnd Go.Proofs.Ytngldpeapcbbpaa.Art Go.Proofs.YtngldpeapcbbpaaW.PrintWords

attribute [local irreducible] cosv wgt qt QT risev turnv backv shapev accv prt snd ovl outv framev fine16 sumv within
set_option maxHeartbeats 1000000 in
theorem Back_no512 {w : World} {t c : Nat} (h : IsLap w t c 512 1 28) {A : Option Addr} {cap : Nat} {x : List Int} (src : Src w .i32 (.slice A 512 cap) x) (hl : x.length = 512) (b32 : ∀ j, -2147483648 ≤ x.getD j 0 ∧ x.getD j 0 ≤ 2147483647) (hq : within 33554432 x = false) :
    Calls Try.prog 18 #[.pointer (some ⟨t, 0, none⟩), .slice A 512 cap] w fun e w' => e = .returned (.tuple #[.slice none 0 0, .int .i64 1]) ∧ w' = w := by
  have c1 := h.blk.cell (i := 1) rfl
  have C := fits26 src hl (by omega) b32 512
  rw [hq, Bool.false_and] at C
  have CC := Lib.hid C
  clear h src hl b32 hq C
  go_enter Try.func18, Try.ntmps18
  go_wp2_with fail
  refine CC.out.mono ?_
  rintro e1 w1 ⟨rfl, he⟩
  subst w1
  go_wp2_with fail
  go_ret2
  exact ⟨rfl, rfl⟩
set_option maxHeartbeats 1000000 in
theorem Back_no128 {w : World} {t c : Nat} (h : IsLap w t c 128 4 27) {A : Option Addr} {cap : Nat} {x : List Int} (src : Src w .i32 (.slice A 128 cap) x) (hl : x.length = 128) (b32 : ∀ j, -2147483648 ≤ x.getD j 0 ∧ x.getD j 0 ≤ 2147483647) (hq : within 33554432 x = false) :
    Calls Try.prog 18 #[.pointer (some ⟨t, 0, none⟩), .slice A 128 cap] w fun e w' => e = .returned (.tuple #[.slice none 0 0, .int .i64 1]) ∧ w' = w := by
  have c1 := h.blk.cell (i := 1) rfl
  have C := fits26 src hl (by omega) b32 128
  rw [hq, Bool.false_and] at C
  have CC := Lib.hid C
  clear h src hl b32 hq C
  go_enter Try.func18, Try.ntmps18
  go_wp2_with fail
  refine CC.out.mono ?_
  rintro e1 w1 ⟨rfl, he⟩
  subst w1
  go_wp2_with fail
  go_ret2
  exact ⟨rfl, rfl⟩
set_option maxHeartbeats 2000000 in
set_option maxRecDepth 100000 in
theorem sound_no_long {W w : World} {l : List Ast} {s c lo br : Nat} {v : Value} {tail : List Int} (H : Hp W w (synA s c lo br v :: slA 2 .i64 v tail :: lapA lo c 512 1 28 :: lapA br c 128 4 27 :: circA c :: l)) {A : Option Addr} {cap : Nat} {L : List Int} (rd : Rd W l .i32 (.slice A 512 cap) L) (ul : L.length = 512) (ub : ∀ j, -2147483648 ≤ L.getD j 0 ∧ L.getD j 0 ≤ 2147483647) (wl : within 33554432 (L) = false) :
    Calls Try.prog 53 #[.pointer (some ⟨s, 0, none⟩), .slice A 512 cap, .bool false] w fun e w' => e = .returned (.tuple #[.slice none 0 0, .int .i64 1]) ∧ Hp W w' (synA s c lo br v :: slA 2 .i64 v tail :: lapA lo c 512 1 28 :: lapA br c 128 4 27 :: circA c :: l) := by
  have CB0 := fun (w' : World) (h : Hp W w' (rowA 2 .i64 w.heap.size 640 (List.replicate 640 0) :: synA s c lo br v :: slA 2 .i64 v tail :: lapA lo c 512 1 28 :: lapA br c 128 4 27 :: circA c :: l)) => Back_no512 (w := w') (Hp_lap (h.pk [3, 4])) (rd _ h.drop.drop.drop.drop.drop.drop) ul ub wl
  have CB := Lib.hid CB0
  clear CB0
  have hm := mk64 640 (by decide)
  rw [show ((640 : Nat) : Int) = 640 from rfl] at hm
  have H0 := Lib.hid (H.new_row 2 .i64 640 0 (by decide))
  have c0 := H0.out.up1.blk.cell (i := 0) rfl
  have c1 := H0.out.up1.blk.cell (i := 1) rfl
  have c2 := H0.out.up1.blk.cell (i := 2) rfl
  clear H rd ul wl ub
  go_enter Try.func53, Try.ntmps53
  go_wp2_with fail
  refine (CB.out _ H0.out).mono ?_
  rintro e1 w1 ⟨rfl, he⟩
  subst w1
  have H1 := Lib.hid H0.out.drop
  clear H0 CB
  go_wp2_with fail
  go_ret2
  exact ⟨rfl, H1.out⟩
set_option maxHeartbeats 4000000 in
set_option maxRecDepth 100000 in
theorem sound_no_brief {W w : World} {l : List Ast} {s c lo br : Nat} {v : Value} {tail : List Int} (H : Hp W w (synA s c lo br v :: slA 2 .i64 v tail :: lapA lo c 512 1 28 :: lapA br c 128 4 27 :: circA c :: l)) {A : Option Addr} {cap : Nat} {L : List Int} (rd : Rd W l .i32 (.slice A 512 cap) L) (ul : L.length = 512) (ub : ∀ j, -2147483648 ≤ L.getD j 0 ∧ L.getD j 0 ≤ 2147483647) (wl : within 33554432 (prt 0 L) = false) :
    Calls Try.prog 53 #[.pointer (some ⟨s, 0, none⟩), .slice A 512 cap, .bool true] w fun e w' => e = .returned (.tuple #[.slice none 0 0, .int .i64 1]) ∧ Hp W w' (synA s c lo br v :: slA 2 .i64 v tail :: lapA lo c 512 1 28 :: lapA br c 128 4 27 :: circA c :: l) := by
  have RD := Lib.hid rd
  have UL := Lib.hid ul
  have UB := Lib.hid ub
  have WL := Lib.hid wl
  have hm := mk64 640 (by decide)
  rw [show ((640 : Nat) : Int) = 640 from rfl] at hm
  have hm2 := mk32 128 (by decide)
  rw [show ((128 : Nat) : Int) = 128 from rfl] at hm2
  have H0 := Lib.hid ((H.new_row 2 .i64 640 0 (by decide)).drop)
  clear H rd ul wl ub
  go_enter Try.func53, Try.ntmps53
  go_wp2_with fail
  go_loopw [56] (fun u wr => u = .int .i64 0 ∧ Hid (Hp W wr (synA s c lo br v :: slA 2 .i64 v tail :: lapA lo c 512 1 28 :: lapA br c 128 4 27 :: circA c :: l))) (fun u _ => 4 - (intOf u).toNat)
  case atStart => exact ⟨rfl, H0⟩
  case round =>
    clear H0
    obtain ⟨rfl, H⟩ := hrel
    obtain ⟨fb, hfb⟩ : ∃ fb : Nat → Int, fb = fun k => L.getD (4 * k + 0) 0 := ⟨_, rfl⟩
    have EB : Hid (fillTo fb 128 128 = prt 0 L) := Lib.hid (by rw [prt_fill, hfb])
    have HB := Lib.hid hfb
    obtain ⟨gk, hgk⟩ : ∃ gk, wr.heap.size = gk := ⟨_, rfl⟩
    have H1 : Hid (Hp W (wr.alloc (.cells (madeCells #[.int .i32 0] 128) 21)) (rowA 21 .i32 gk 128 (fillTo fb 128 0) :: synA s c lo br v :: slA 2 .i64 v tail :: lapA lo c 512 1 28 :: lapA br c 128 4 27 :: circA c :: l)) := Lib.hid (by rw [fillTo_zero, ← hgk]; exact H.out.new_row 21 .i32 128 0 (by decide))
    clear hfb H
    go_wp2_with fail
    try rw [hgk]
    clear hgk
    go_loopw [62] (fun u wr => ∃ k : Nat, k ≤ 128 ∧ u = .int .i64 (k : Int) ∧ Hid (Hp W wr (rowA 21 .i32 gk 128 (fillTo fb 128 k) :: synA s c lo br v :: slA 2 .i64 v tail :: lapA lo c 512 1 28 :: lapA br c 128 4 27 :: circA c :: l))) (fun u _ => 128 - (intOf u).toNat)
    case atStart => exact ⟨0, by omega, rfl, H1⟩
    case round =>
      clear H1
      obtain ⟨k, hk, rfl, H⟩ := hrel
      by_cases hlt : k < 128
      · have ik : (k : Int) < 128 := by omega
        obtain ⟨i1, hi1⟩ : ∃ i1 : Nat, i1 = 4 * k + 0 := ⟨_, rfl⟩
        obtain ⟨ad, rfl, hc⟩ := Src.at (RD.out _ H.out.drop.drop.drop.drop.drop.drop) (j := i1) (by rw [UL.out]; omega)
        have hv : fb k = L.getD i1 0 := by rw [HB.out, hi1]
        rw [← hv] at hc
        have fr := H.out.row.free k
        have fc := H.out.row.cell (i := k) (by rw [fillTo_len]; omega)
        rw [fillTo_at] at fc
        have hs := H.out.set k (fb k)
        rw [fillTo_set] at hs
        have HS := Lib.hid hs
        have e0 : IntKind.i64.wrap (4 * (k : Int)) = (i1 : Int) := by rw [wrapI64 (by omega) (by omega)]; omega
        have e1 : IntKind.i64.wrap (i1 : Int) = (i1 : Int) := wrapI64 (by omega) (by omega)
        have i2 : (i1 : Int) < 512 := by omega
        have i3 : i1 < 512 := by omega
        clear hs hv
        have HI := Lib.hid hi1
        clear hi1
        go_wp2_with fail
        go_roundw
        case rel => exact ⟨k + 1, by omega, by go_num, HS⟩
        case measure => simp [intOf]; omega
      · obtain rfl : k = 128 := by omega
        rw [EB.out] at H
        have c0 := H.out.up1.blk.cell (i := 0) rfl
        have c1 := H.out.up1.blk.cell (i := 1) rfl
        have c2 := H.out.up1.blk.cell (i := 2) rfl
        have pl : (prt 0 L).length = 128 := by rw [← EB.out, fillTo_len]
        have sx := Src.of_sl (Sl.row H.out.row)
        rw [pl] at sx
        have pb : ∀ j, -2147483648 ≤ (prt 0 L).getD j 0 ∧ (prt 0 L).getD j 0 ≤ 2147483647 := fun j => by
          rw [prt_fill, fillTo_all, List.getD_eq_getElem?_getD, List.getElem?_map]
          by_cases hj : j < 128
          · rw [List.getElem?_range hj]; exact UB.out _
          · rw [List.getElem?_eq_none (by simp; omega)]; simp
        have C := Lib.hid (Back_no128 (Hp_lap (H.out.pk [4, 4])) sx pl pb WL.out)
        have H2 := Lib.hid H.out.drop
        clear pl sx pb EB HB H
        go_wp2_with fail
        refine C.out.mono ?_
        rintro e1 w1 ⟨rfl, he⟩
        subst w1
        go_wp2_with fail
        go_ret2
        exact ⟨rfl, H2.out⟩
theorem Samples_no {W w : World} {l : List Ast} {s c lo br : Nat} {v : Value} {tail : List Int} (H : Hp W w (synA s c lo br v :: slA 2 .i64 v tail :: lapA lo c 512 1 28 :: lapA br c 128 4 27 :: circA c :: l)) {A : Option Addr} {cap : Nat} {L : List Int} (rd : Rd W l .i32 (.slice A 512 cap) L) (ul : L.length = 512) (ub : ∀ j, -2147483648 ≤ L.getD j 0 ∧ L.getD j 0 ≤ 2147483647) (w1 : within 33554432 L = false) (w2 : within 33554432 (prt 0 L) = false) (b : Bool) :
    Calls Try.prog 32 #[.pointer (some ⟨s, 0, none⟩), .slice A 512 cap, .bool b] w fun e w' => e = .returned (.tuple #[.slice none 0 0, .int .i64 1]) ∧ Hp W w' (synA s c lo br v :: slA 2 .i64 v tail :: lapA lo c 512 1 28 :: lapA br c 128 4 27 :: circA c :: l) := by
  have C : Calls Try.prog 53 #[.pointer (some ⟨s, 0, none⟩), .slice A 512 cap, .bool b] w fun e w' => e = .returned (.tuple #[.slice none 0 0, .int .i64 1]) ∧ Hp W w' (synA s c lo br v :: slA 2 .i64 v tail :: lapA lo c 512 1 28 :: lapA br c 128 4 27 :: circA c :: l) := by
    cases b
    · exact sound_no_long H rd ul ub w1
    · exact sound_no_brief H rd ul ub w2
  have CC := Lib.hid C
  clear C H rd ul ub w1 w2
  go_enter Try.func32, Try.ntmps32
  go_wp2_with fail
  refine CC.out.mono ?_
  rintro e1 w1 ⟨rfl, h1⟩
  have H1 := Lib.hid h1
  clear h1
  go_wp2_with fail
  go_ret2
  exact ⟨rfl, H1.out⟩
theorem prt_set (x : Int) : prt 0 ((List.replicate 512 (0 : Int)).set 256 x) = (List.replicate 128 (0 : Int)).set 64 x := by
  unfold prt
  apply List.ext_getElem
  · rw [List.length_map, List.length_range, List.length_set, List.length_replicate]
  · intro j h1 h2
    simp only [List.getElem_map, List.getElem_range, List.getElem_set, List.getElem_replicate, List.getD_eq_getElem?_getD, List.getElem?_set, List.getElem?_replicate, List.length_replicate]
    have hj : j < 128 := by rw [List.length_set, List.length_replicate] at h2; exact h2
    by_cases h : j = 64
    · subst h; simp
    · rw [if_neg (by omega), if_pos (by omega), if_neg (by omega)]; rfl
set_option maxHeartbeats 4000000 in
set_option maxRecDepth 100000 in
theorem args9_A (n x : Int) (b : Bool) (W : World) (s u : Nat) (HU : Hid (IntKind.u64.wrap n = (u : Int))) (S1 : Hid (Int.tmod (u : Int) 1100 = (s : Int))) (S2 : Hid ((u : Int) % 1100 = (s : Int))) (S4 : Hid (IntKind.u64.wrap (s : Int) = s)) (sb : s < 1100) (bx : -2147483648 ≤ x ∧ x ≤ 2147483647) (hs : s ≠ 512) :
    Calls Try.prog 10 #[.int .i64 n, .int .i32 x, .bool b] W fun e w' => e = .returned (.bool true) ∧ Below W.heap.size W w' := by
  have hk16 := mk16 512 (by decide)
  rw [show ((512 : Nat) : Int) = 512 from rfl] at hk16
  have hk32 := mk32 512 (by decide)
  rw [show ((512 : Nat) : Int) = 512 from rfl] at hk32
  have hm := mk16 s (by omega)
  have hm2 := mk32 s (by omega)
  have q1 : ((s : Int) == 512) = false := by rw [beq_eq_false_iff_ne]; omega
  go_enter Try.func10, Try.ntmps10
  go_wp2_with fail
  refine (lives9 _).mono ?_
  rintro e1 w1 ⟨rfl, b1⟩
  have H1 : Hid (Hp W w1 []) := Lib.hid ((Hp.nil W).keep b1)
  clear b1
  have hu := HU.out
  have s1 := S1.out
  have s2 := S2.out
  have s4 := S4.out
  go_wp2_with fail
  clear hu s1 s2 s4
  refine (NewAnalyser_h H1.out).mono ?_
  rintro e2 w2 ⟨a, c, lo, br, v, rfl, h2⟩
  have H2 := Lib.hid h2
  clear h2 H1
  go_wp2_with fail
  refine (NewSynth_h H2.out).mono ?_
  rintro e3 w3 ⟨sy, c2, lo2, br2, v2, rfl, h3⟩
  have H3 := Lib.hid (h3.new_row 49 .i16 s 0 (by unfold maxLen; omega)).drop
  clear h3 H2
  go_wp2_with fail
  refine (Lines_bad a (some ⟨w3.heap.size, 0, none⟩) s s hs b _).mono ?_
  rintro e4 w4 ⟨rfl, he⟩
  subst w4
  have H4 := Lib.hid (H3.out.new_row 21 .i32 s 0 (by unfold maxLen; omega))
  go_upto_if 41 with (fail)
  go_cut [] (fun wc => Hid (Hp W wc []))
  case first =>
    by_cases s0 : 0 < s
    · obtain ⟨i, hi⟩ : ∃ i : Nat, i = s / 2 := ⟨_, rfl⟩
      have ii : i < s := by omega
      have is1 : decide ((0 : Int) < (s : Int)) = true := decide_eq_true (by omega)
      have is2 : (i : Int) < (s : Int) := by omega
      have d1 : Int.tdiv (s : Int) 2 = (i : Int) := by rw [Int.tdiv_eq_ediv_of_nonneg (by omega)]; omega
      have d2 : (s : Int) / 2 = (i : Int) := by omega
      have d3 : IntKind.i64.wrap (i : Int) = i := wrapI64 (by omega) (by omega)
      have fr := H4.out.row.free i
      have fc := H4.out.row.cell (i := i) (by simpa using ii)
      have HS := Lib.hid (H4.out.set i x).drop
      have HS' : Hid (Hp W _ []) := Lib.hid (HS.out.pk [])
      rw [World.setCell_alloc_new] at HS'
      have ez : (w3.alloc (.cells (madeCells #[.int .i16 0] s) 49)).heap.size = w3.heap.size + 1 := by simp
      rw [ez] at fr fc
      clear HS hi ez
      go_wp2_with fail
      go_meet
      first | exact HS' | exact Lib.hid (by have := HS'.out; simpa [World.setCell_alloc_new] using this)
    · obtain rfl : s = 0 := by omega
      have is1 : decide ((0 : Int) < ((0 : Nat) : Int)) = false := by decide
      go_wp2_with fail
      go_meet
      exact Lib.hid (H4.out.pk [])
  case rest =>
  clear H4 H3
  have HE := hcut
  clear hcut
  go_wp2_with fail
  refine (Samples_bad sy _ s s hs b _).mono ?_
  rintro e5 w5 ⟨rfl, he⟩
  subst w5
  go_wp2_with fail
  refine (Lines_nil _ _ _).mono ?_
  rintro e6 w6 ⟨rfl, he⟩
  subst w6
  go_wp2_with fail
  refine (Samples_nil _ _ _).mono ?_
  rintro e7 w7 ⟨rfl, he⟩
  subst w7
  go_wp2_with fail
  refine (Clone_nil _).mono ?_
  rintro e8 w8 ⟨rfl, he⟩
  subst w8
  have HF := Lib.hid (((HE.out.alloc (.cells (madeCells #[.int .i16 0] 512) 49)).alloc (.cells (madeCells #[.int .i32 0] 512) 21)).b)
  go_wp2_with fail
  go_ret
  exact ⟨rfl, HF.out⟩
set_option maxHeartbeats 4000000 in
set_option maxRecDepth 100000 in
theorem args9_B (n x : Int) (b : Bool) (W : World) (s u : Nat) (HU : Hid (IntKind.u64.wrap n = (u : Int))) (S1 : Hid (Int.tmod (u : Int) 1100 = (s : Int))) (S2 : Hid ((u : Int) % 1100 = (s : Int))) (S4 : Hid (IntKind.u64.wrap (s : Int) = s)) (sb : s < 1100) (bx : -2147483648 ≤ x ∧ x ≤ 2147483647) (hs : s = 512) (hx : -33554432 ≤ x ∧ x < 33554432) :
    Calls Try.prog 10 #[.int .i64 n, .int .i32 x, .bool b] W fun e w' => e = .returned (.bool true) ∧ Below W.heap.size W w' := by
  have hk16 := mk16 512 (by decide)
  rw [show ((512 : Nat) : Int) = 512 from rfl] at hk16
  have hk32 := mk32 512 (by decide)
  rw [show ((512 : Nat) : Int) = 512 from rfl] at hk32
  obtain rfl := hs
  have hm := mk16 512 (by decide)
  have hm2 := mk32 512 (by decide)
  go_enter Try.func10, Try.ntmps10
  go_wp2_with fail
  refine (lives9 _).mono ?_
  rintro e1 w1 ⟨rfl, b1⟩
  have H1 : Hid (Hp W w1 []) := Lib.hid ((Hp.nil W).keep b1)
  clear b1
  have hu := HU.out
  have s1 := S1.out
  have s2 := S2.out
  have s4 := S4.out
  go_wp2_with fail
  clear hu s1 s2 s4
  refine (NewAnalyser_h H1.out).mono ?_
  rintro e2 w2 ⟨a, c, lo, br, v, rfl, h2⟩
  have H2 := Lib.hid h2
  clear h2 H1
  go_wp2_with fail
  refine (NewSynth_h H2.out).mono ?_
  rintro e3 w3 ⟨sy, c2, lo2, br2, v2, rfl, h3⟩
  have h3' := (h3.new_row 49 .i16 512 0 (by decide)).pk [6, 6, 6, 6, 6, 0, 0, 0, 0, 0, 0]
  have H3 := Lib.hid h3'
  clear h3 h3' H2
  go_wp2_with fail
  refine (Lines_h H3.out (List.length_replicate) (rep_bd 128) (Rd.rown (List.length_replicate)) (List.length_replicate) (fun j => by rw [rep_at]; decide) b).mono ?_
  rintro e4 w4 ⟨gl, v4, rfl, h4⟩
  have h5 := (h4.new_row 21 .i32 512 0 (by decide))
  have fr := h5.row.free 256
  have fc := h5.row.cell (i := 256) (by rw [List.length_replicate]; decide)
  have h6 := h5.set 256 x
  rw [World.setCell_alloc_new] at h6
  have H6 := Lib.hid (h6.pk [8, 8, 8, 8, 8, 0])
  clear h4 h5 h6 H3
  have is1 : decide ((0 : Int) < ((512 : Nat) : Int)) = true := by decide
  have d1 : Int.tdiv ((512 : Nat) : Int) 2 = 256 := by decide
  have LL : Hid (((List.replicate 512 (0 : Int)).set 256 x).length = 512) := Lib.hid (by rw [List.length_set, List.length_replicate])
  have B32 : Hid (∀ j, -2147483648 ≤ ((List.replicate 512 (0 : Int)).set 256 x).getD j 0 ∧ ((List.replicate 512 (0 : Int)).set 256 x).getD j 0 ≤ 2147483647) := Lib.hid (set_b32 bx)
  have LB : Hid (∀ j, -33554432 ≤ ((List.replicate 512 (0 : Int)).set 256 x).getD j 0 ∧ ((List.replicate 512 (0 : Int)).set 256 x).getD j 0 < 33554432) := Lib.hid (within_at (m := 33554432) (by rw [within_set (by decide) (by decide)]; simp; omega) (by decide))
  have x1 : decide ((-33554432 : Int) ≤ x) = true := decide_eq_true hx.1
  have x2 : decide (x < (33554432 : Int)) = true := decide_eq_true hx.2
  go_wp2_with fail
  refine (Samples_h H6.out (List.length_replicate) (rep_bd' 128) (Rd.rown LL.out) LL.out LB.out (in_within LB.out) b).mono ?_
  rintro e5 w5 ⟨gs, v5, rfl, h5⟩
  have HE : Hid (Hp W w5 []) := Lib.hid (h5.pk [])
  clear h5 H6
  go_wp2_with fail
  refine (Lines_nil _ _ _).mono ?_
  rintro e6 w6 ⟨rfl, he⟩
  subst w6
  go_wp2_with fail
  refine (Samples_nil _ _ _).mono ?_
  rintro e7 w7 ⟨rfl, he⟩
  subst w7
  go_wp2_with fail
  refine (Clone_nil _).mono ?_
  rintro e8 w8 ⟨rfl, he⟩
  subst w8
  have HF := Lib.hid (((HE.out.alloc (.cells (madeCells #[.int .i16 0] 512) 49)).alloc (.cells (madeCells #[.int .i32 0] 512) 21)).b)
  go_wp2_with fail
  go_ret
  exact ⟨rfl, HF.out⟩
set_option maxHeartbeats 4000000 in
set_option maxRecDepth 100000 in
theorem args9_C (n x : Int) (b : Bool) (W : World) (s u : Nat) (HU : Hid (IntKind.u64.wrap n = (u : Int))) (S1 : Hid (Int.tmod (u : Int) 1100 = (s : Int))) (S2 : Hid ((u : Int) % 1100 = (s : Int))) (S4 : Hid (IntKind.u64.wrap (s : Int) = s)) (sb : s < 1100) (bx : -2147483648 ≤ x ∧ x ≤ 2147483647) (hs : s = 512) (hx : ¬ (-33554432 ≤ x ∧ x < 33554432)) :
    Calls Try.prog 10 #[.int .i64 n, .int .i32 x, .bool b] W fun e w' => e = .returned (.bool true) ∧ Below W.heap.size W w' := by
  have hk16 := mk16 512 (by decide)
  rw [show ((512 : Nat) : Int) = 512 from rfl] at hk16
  have hk32 := mk32 512 (by decide)
  rw [show ((512 : Nat) : Int) = 512 from rfl] at hk32
  obtain rfl := hs
  have hm := mk16 512 (by decide)
  have hm2 := mk32 512 (by decide)
  go_enter Try.func10, Try.ntmps10
  go_wp2_with fail
  refine (lives9 _).mono ?_
  rintro e1 w1 ⟨rfl, b1⟩
  have H1 : Hid (Hp W w1 []) := Lib.hid ((Hp.nil W).keep b1)
  clear b1
  have hu := HU.out
  have s1 := S1.out
  have s2 := S2.out
  have s4 := S4.out
  go_wp2_with fail
  clear hu s1 s2 s4
  refine (NewAnalyser_h H1.out).mono ?_
  rintro e2 w2 ⟨a, c, lo, br, v, rfl, h2⟩
  have H2 := Lib.hid h2
  clear h2 H1
  go_wp2_with fail
  refine (NewSynth_h H2.out).mono ?_
  rintro e3 w3 ⟨sy, c2, lo2, br2, v2, rfl, h3⟩
  have h3' := (h3.new_row 49 .i16 512 0 (by decide)).pk [6, 6, 6, 6, 6, 0, 0, 0, 0, 0, 0]
  have H3 := Lib.hid h3'
  clear h3 h3' H2
  go_wp2_with fail
  refine (Lines_h H3.out (List.length_replicate) (rep_bd 128) (Rd.rown (List.length_replicate)) (List.length_replicate) (fun j => by rw [rep_at]; decide) b).mono ?_
  rintro e4 w4 ⟨gl, v4, rfl, h4⟩
  have h5 := (h4.new_row 21 .i32 512 0 (by decide))
  have fr := h5.row.free 256
  have fc := h5.row.cell (i := 256) (by rw [List.length_replicate]; decide)
  have h6 := h5.set 256 x
  rw [World.setCell_alloc_new] at h6
  have H6 := Lib.hid (h6.pk [8, 8, 8, 8, 8, 0])
  clear h4 h5 h6 H3
  have is1 : decide ((0 : Int) < ((512 : Nat) : Int)) = true := by decide
  have d1 : Int.tdiv ((512 : Nat) : Int) 2 = 256 := by decide
  have LL : Hid (((List.replicate 512 (0 : Int)).set 256 x).length = 512) := Lib.hid (by rw [List.length_set, List.length_replicate])
  have B32 : Hid (∀ j, -2147483648 ≤ ((List.replicate 512 (0 : Int)).set 256 x).getD j 0 ∧ ((List.replicate 512 (0 : Int)).set 256 x).getD j 0 ≤ 2147483647) := Lib.hid (set_b32 bx)
  have wl : within 33554432 ((List.replicate 512 (0 : Int)).set 256 x) = false := by
    rw [within_set (by decide) (by decide), Bool.and_eq_false_iff]
    simp only [decide_eq_false_iff_not]
    omega
  have wb : within 33554432 (prt 0 ((List.replicate 512 (0 : Int)).set 256 x)) = false := by
    rw [prt_set, within_set (by decide) (by decide), Bool.and_eq_false_iff]
    simp only [decide_eq_false_iff_not]
    omega
  have WL := Lib.hid wl
  have WB := Lib.hid wb
  clear wl wb
  rcases (show x < -33554432 ∨ (-33554432 ≤ x ∧ 33554432 ≤ x) by omega) with hx | hx
  · have x1 : decide ((-33554432 : Int) ≤ x) = false := decide_eq_false (by omega)
    go_wp2_with fail
    refine (Samples_no H6.out (Rd.rown LL.out) LL.out B32.out WL.out WB.out b).mono ?_
    rintro e5 w5 ⟨rfl, h5⟩
    have HE : Hid (Hp W w5 []) := Lib.hid (h5.pk [])
    clear h5 H6
    go_wp2_with fail
    refine (Lines_nil _ _ _).mono ?_
    rintro e6 w6 ⟨rfl, he⟩
    subst w6
    go_wp2_with fail
    refine (Samples_nil _ _ _).mono ?_
    rintro e7 w7 ⟨rfl, he⟩
    subst w7
    go_wp2_with fail
    refine (Clone_nil _).mono ?_
    rintro e8 w8 ⟨rfl, he⟩
    subst w8
    have HF := Lib.hid (((HE.out.alloc (.cells (madeCells #[.int .i16 0] 512) 49)).alloc (.cells (madeCells #[.int .i32 0] 512) 21)).b)
    go_wp2_with fail
    go_ret
    exact ⟨rfl, HF.out⟩
  · have x1 : decide ((-33554432 : Int) ≤ x) = true := decide_eq_true (by omega)
    have x2 : decide (x < (33554432 : Int)) = false := decide_eq_false (by omega)
    go_wp2_with fail
    refine (Samples_no H6.out (Rd.rown LL.out) LL.out B32.out WL.out WB.out b).mono ?_
    rintro e5 w5 ⟨rfl, h5⟩
    have HE : Hid (Hp W w5 []) := Lib.hid (h5.pk [])
    clear h5 H6
    go_wp2_with fail
    refine (Lines_nil _ _ _).mono ?_
    rintro e6 w6 ⟨rfl, he⟩
    subst w6
    go_wp2_with fail
    refine (Samples_nil _ _ _).mono ?_
    rintro e7 w7 ⟨rfl, he⟩
    subst w7
    go_wp2_with fail
    refine (Clone_nil _).mono ?_
    rintro e8 w8 ⟨rfl, he⟩
    subst w8
    have HF := Lib.hid (((HE.out.alloc (.cells (madeCells #[.int .i16 0] 512) 49)).alloc (.cells (madeCells #[.int .i32 0] 512) 21)).b)
    go_wp2_with fail
    go_ret
    exact ⟨rfl, HF.out⟩
theorem args9_law (n x : Int) (b : Bool) (W : World) (wn : (Lit.int .i64 n).wf = true) (wx : (Lit.int .i32 x).wf = true) :
    Calls Try.prog 10 #[.int .i64 n, .int .i32 x, .bool b] W fun e w' => e = .returned (.bool true) ∧ Below W.heap.size W w' := by
  have bx : -2147483648 ≤ x ∧ x ≤ 2147483647 := by
    simp only [Lit.wf, Bool.and_eq_true, decide_eq_true_eq] at wx
    have e1 : IntKind.min .i32 = -2147483648 := by decide
    have e2 : IntKind.max .i32 = 2147483647 := by decide
    rw [e1, e2] at wx
    exact wx
  obtain ⟨u, hu⟩ : ∃ u : Nat, IntKind.u64.wrap n = (u : Int) := ⟨(IntKind.u64.wrap n).toNat, by rw [IntKind.wrap_u64]; omega⟩
  obtain ⟨s, hs⟩ : ∃ s : Nat, s = u % 1100 := ⟨_, rfl⟩
  have s1 : Int.tmod (u : Int) 1100 = (s : Int) := by rw [Int.tmod_eq_emod_of_nonneg (Int.natCast_nonneg _), hs]; rfl
  have s2 : (u : Int) % 1100 = (s : Int) := by omega
  have s4 : IntKind.u64.wrap (s : Int) = s := by rw [IntKind.wrap_u64]; omega
  by_cases h : s = 512
  · by_cases hx : -33554432 ≤ x ∧ x < 33554432
    · exact args9_B n x b W s u (Lib.hid hu) (Lib.hid s1) (Lib.hid s2) (Lib.hid s4) (by omega) bx h hx
    · exact args9_C n x b W s u (Lib.hid hu) (Lib.hid s1) (Lib.hid s2) (Lib.hid s4) (by omega) bx h hx
  · exact args9_A n x b W s u (Lib.hid hu) (Lib.hid s1) (Lib.hid s2) (Lib.hid s4) (by omega) bx h
end Go.Proofs.Ytngldpeapcbbpaa.Lap
