/-
  The walks of the document's decoder: next, Open, At, Take, Symbol, Bits; no condition but those told.
-/
import Derived.Test.YtlbjoflmfboeeaaDes
import Derived.Test.YtlbjoflmfboeeaaRes
set_option linter.unusedVariables false
set_option linter.unusedSimpArgs false
namespace Go.Proofs.Ytlbjoflmfboeeaa.Deco
open Go.RowKit Go.Proofs.Ytlbjoflmfboeeaa Go.Proofs.YtlbjoflmfboeeaaW.PrintWords

attribute [local irreducible] bt
set_option maxHeartbeats 2000000 in
set_option maxRecDepth 100000 in
theorem rnext_calls {w : World} {d : Nat} {s : DSt} {v : Value} (a : Is w d 69 .i64 s v) (hb : Byt s.bs) (c0 : 0 ≤ s.co) (c1 : s.co < 16777216) (hn : s.n ≤ 1000000000000) :
    Calls Try.prog 68 #[.pointer (some ⟨d, 0, none⟩)] w fun e w' => e = .returned (.tuple #[]) ∧ Is w' d 69 .i64 (nextS s) v ∧ At d w w' := by
  have hbt := bt_bd hb
  have HBt : Hid (bt s = s.bs.getD s.n 0) := Lib.hid (by unfold bt; rfl)
  have A := Lib.hid a
  obtain ⟨bs, n, co, sz⟩ := s
  simp only at *
  have d2 := a.blk.cell (i := 2) rfl
  have f2 := a.blk.free 2
  have hl := hb.2
  have HNx : Hid (nextS ⟨bs, n, co, sz⟩ = ⟨bs, n + 1, co * 256 + bt ⟨bs, n, co, sz⟩, sz⟩) := Lib.hid rfl
  generalize bt ⟨bs, n, co, sz⟩ = x at *
  clear a hb
  have e1 : IntKind.i64.wrap (co * 256) = co * 256 := wrapI64 (by omega) (by omega)
  go_enter Try.func68, Try.ntmps68
  go_wp2
  have A2 := Lib.hid (A.out.co_ (co * 256))
  have O2 := Lib.hid ((At.refl d w).cell 2 (.int .i64 (co * 256)))
  clear d2 f2 A
  generalize w.setCell ⟨d, 2, none⟩ (.int .i64 (co * 256)) = w2 at *
  have d0 := A2.out.blk.cell (i := 0) rfl
  have d1 := A2.out.blk.cell (i := 1) rfl
  have d2 := A2.out.blk.cell (i := 2) rfl
  have f1 := A2.out.blk.free 1
  have f2 := A2.out.blk.free 2
  by_cases hc : n < bs.length
  · obtain ⟨g, cap, rfl, hr⟩ : ∃ g cap, v = .slice (some ⟨g, 0, none⟩) bs.length cap ∧ RowI w2 5 .u8 g cap bs := by
      rcases A2.out.sl with ⟨_, h⟩ | h
      · simp only at h; subst h; simp at hc
      · exact h
    have d3 := hr.cell hc
    have hx : bs[n] = x := by rw [HBt.out, List.getD_eq_getElem?_getD, List.getElem?_eq_getElem hc]; rfl
    rw [hx] at d3
    have e2 : IntKind.i64.wrap (co * 256 + x) = co * 256 + x := wrapI64 (by omega) (by omega)
    have e3 : IntKind.i64.wrap x = x := wrapI64 (by omega) (by omega)
    have HC := Lib.hid hc
    have i1 : (n : Int) < bs.length := by omega
    clear hr hx HBt
    go_quiet (fail)
    have A3 := Lib.hid (A2.out.drewN nq)
    have O3 := Lib.hid (O2.out.drewN nq)
    clear d0 d1 d2 f1 f2 A2 O2
    have d3 : (w2.drewN nq).cell? ⟨g, n, none⟩ = some (.int .u8 x) := d3
    generalize w2.drewN nq = w3 at *
    have d0 := A3.out.blk.cell (i := 0) rfl
    have d1 := A3.out.blk.cell (i := 1) rfl
    have d2 := A3.out.blk.cell (i := 2) rfl
    have f1 := A3.out.blk.free 1
    have f2 := A3.out.blk.free 2
    go_wp2
    go_still_tail 19, (by kernel_rfl)
    go_wp2
    rw [HNx.out]
    exact bodyPost_end (results_none rfl _ _ _) rfl ⟨rfl, (A3.out.co_ _).inc.drew, ((At.cell O3.out 2 _).cell 1 _).drew⟩
  · have hx : x = 0 := by rw [HBt.out, List.getD_eq_getElem?_getD, List.getElem?_eq_none (by omega)]; rfl
    have HC := Lib.hid hc
    subst hx
    rw [Int.add_zero] at HNx
    obtain ⟨ad, cap, rfl, _⟩ := A2.out.sl.form
    have i1 : ¬ (n : Int) < bs.length := by omega
    clear HBt
    go_quiet (fail)
    have A3 := Lib.hid (A2.out.drewN nq)
    have O3 := Lib.hid (O2.out.drewN nq)
    clear d0 d1 d2 f1 f2 A2 O2
    generalize w2.drewN nq = w3 at *
    have d1 := A3.out.blk.cell (i := 1) rfl
    have f1 := A3.out.blk.free 1
    go_wp2
    rw [HNx.out]
    exact bodyPost_end (results_none rfl _ _ _) rfl ⟨rfl, A3.out.inc, At.cell O3.out 1 _⟩
theorem rat_calls {w : World} {d : Nat} {s : DSt} {v : Value} (a : Is w d 69 .i64 s v) (ok : s.Ready) (al : Int) (a0 : 1 ≤ al) (a1 : al ≤ 8192) :
    Calls Try.prog 73 #[.pointer (some ⟨d, 0, none⟩), .int .i64 al] w fun e w' => e = .returned (.int .i64 (atS s al)) ∧ ∃ n, w' = w.drewN n := by
  have d2 := a.blk.cell (i := 2) rfl
  have d3 := a.blk.cell (i := 3) rfl
  obtain ⟨each, hE⟩ : ∃ each, each = s.sz / al := ⟨_, rfl⟩
  have b3 := Enc.each_lo al s.sz a0 a1 ok.s0
  rw [← hE] at b3
  have HA : Hid (atS s al = min (s.co / each) (al - 1)) := Lib.hid (by unfold atS; rw [hE])
  have e1 : Int.tdiv s.sz al = each := by rw [hE, Int.tdiv_eq_ediv_of_nonneg (by have := ok.s0; omega)]
  have b5 : each ≤ s.sz := by rw [hE]; exact Int.ediv_le_self _ (by have := ok.s0; omega)
  obtain ⟨hb, c0, c1, s0, s1⟩ := ok
  obtain ⟨q, hq⟩ : ∃ q, q = s.co / each := ⟨_, rfl⟩
  have e2 : Int.tdiv s.co each = q := by rw [hq, Int.tdiv_eq_ediv_of_nonneg c0]
  have q0 : 0 ≤ q := by rw [hq]; exact Int.ediv_nonneg c0 (by omega)
  have q1 : q ≤ s.co := by rw [hq]; exact Int.ediv_le_self _ c0
  rw [← hq] at HA
  have z1 : al ≠ 0 := by omega
  have z2 : (al == 0) = false := by rw [beq_eq_false_iff_ne]; omega
  have z3 : each ≠ 0 := by omega
  have z4 : (each == 0) = false := by rw [beq_eq_false_iff_ne]; omega
  have w1 : IntKind.i64.wrap each = each := wrapI64 (by omega) (by omega)
  have w2 : IntKind.i64.wrap q = q := wrapI64 (by omega) (by omega)
  have w3 : IntKind.i64.wrap (al - 1) = al - 1 := wrapI64 (by omega) (by omega)
  clear hE hq a hb
  obtain ⟨bs, n, co, sz⟩ := s
  simp only at *
  go_enter Try.func73, Try.ntmps73
  go_wp2
  go_quiet (fail)
  by_cases h : al ≤ q
  · have hm : min q (al - 1) = al - 1 := by omega
    rw [hm] at HA
    go_wp2
    go_ret
    rw [HA.out]
    exact ⟨rfl, nq, rfl⟩
  · have hm : min q (al - 1) = q := by omega
    rw [hm] at HA
    go_wp2
    go_ret
    rw [HA.out]
    exact ⟨rfl, nq, rfl⟩
set_option maxHeartbeats 4000000 in
set_option maxRecDepth 100000 in
theorem rtake_calls {w : World} {d : Nat} {s : DSt} {v : Value} (a : Is w d 69 .i64 s v) (ok : s.Ready) (lo ow al : Int) (may : Enc.May lo ow al) (le : s.sz / al * lo ≤ s.co) (hn : s.n ≤ 900000000000) :
    Calls Try.prog 74 #[.pointer (some ⟨d, 0, none⟩), .int .i64 lo, .int .i64 ow, .int .i64 al] w fun e w' => e = .returned (.tuple #[]) ∧ Is w' d 69 .i64 (takeS s lo ow al) v ∧ At d w w' := by
  obtain ⟨p0, p1, p2, p3⟩ := may
  have hd := a.blk.lt
  obtain ⟨each, hE⟩ : ∃ each, each = s.sz / al := ⟨_, rfl⟩
  obtain ⟨q, hq⟩ : ∃ q, q = each * lo := ⟨_, rfl⟩
  obtain ⟨r, hr⟩ : ∃ r, r = each * ow := ⟨_, rfl⟩
  have b1 := Enc.mul_bd each lo al s.sz hE (by omega) p0 (by omega) (by have := ok.s0; omega)
  have b2 := Enc.mul_bd each ow al s.sz hE (by omega) (by omega) (by omega) (by have := ok.s0; omega)
  have b3 := Enc.each_lo al s.sz (by omega) p3 ok.s0
  have b4 : each * 1 ≤ each * ow := Int.mul_le_mul_of_nonneg_left p1 (by omega)
  have b5 : each ≤ s.sz := by rw [hE]; exact Int.ediv_le_self _ (by have := ok.s0; omega)
  have HT : Hid (takeS s lo ow al = dnorm 2 ⟨s.bs, s.n, min (s.co - q) (r - 1), r⟩) := Lib.hid (by unfold takeS; rw [hq, hr, hE])
  have e1 : Int.tdiv s.sz al = each := by rw [hE, Int.tdiv_eq_ediv_of_nonneg (by have := ok.s0; omega)]
  rw [← hE, ← hq] at le
  rw [← hE] at b3
  rw [← hq] at b1
  rw [← hr] at b2 b4
  rw [Int.mul_one] at b4
  have e2 : each * lo = q := hq.symm
  have e3 : each * ow = r := hr.symm
  have BY := Lib.hid ok.by_
  have A := Lib.hid a
  obtain ⟨_, c0, c1, s0, s1⟩ := ok
  obtain ⟨bs, n, co, sz⟩ := s
  simp only at *
  have d3 := a.blk.cell (i := 3) rfl
  have d2 := a.blk.cell (i := 2) rfl
  have f2 := a.blk.free 2
  have f3 := a.blk.free 3
  have z1 : al ≠ 0 := by omega
  have z2 : (al == 0) = false := by rw [beq_eq_false_iff_ne]; omega
  have w1 : IntKind.i64.wrap each = each := wrapI64 (by omega) (by omega)
  have w2 : IntKind.i64.wrap q = q := wrapI64 (by omega) (by omega)
  have w3 : IntKind.i64.wrap r = r := wrapI64 (by omega) (by omega)
  have w4 : IntKind.i64.wrap (co - q) = co - q := wrapI64 (by omega) (by omega)
  have w5 : IntKind.i64.wrap (r - 1) = r - 1 := wrapI64 (by omega) (by omega)
  obtain ⟨x, hx⟩ : ∃ x, x = min (co - q) (r - 1) := ⟨_, rfl⟩
  rw [← hx] at HT
  have x0 : 0 ≤ x := by omega
  have x1 : x ≤ r - 1 := by omega
  clear hE hq hr a
  go_enter Try.func74, Try.ntmps74
  go_wp2
  have A3 := Lib.hid ((A.out.co_ (co - q)).sz_ r)
  have O3 := Lib.hid (At.cell (At.cell (At.refl d w) 2 (.int .i64 (co - q))) 3 (.int .i64 r))
  clear d2 d3 f2 f3 A
  generalize ((w.setCell ⟨d, 2, none⟩ (.int .i64 (co - q))).setCell ⟨d, 3, none⟩ (.int .i64 r)) = w3 at *
  have d2 := A3.out.blk.cell (i := 2) rfl
  have d3 := A3.out.blk.cell (i := 3) rfl
  have f2 := A3.out.blk.free 2
  have f3 := A3.out.blk.free 3
  go_quiet (fail)
  by_cases hc : r ≤ co - q
  · obtain rfl : x = r - 1 := by omega
    clear hx
    have d2 : (w3.drewN nq).cell? ⟨d, 2, none⟩ = _ := d2
    have d3 : (w3.drewN nq).cell? ⟨d, 3, none⟩ = _ := d3
    have f2 : (w3.drewN nq).frozen? ⟨d, 2, none⟩ = _ := f2
    go_wp2_with fail
    have A4 := Lib.hid ((A3.out.drewN nq).co_ (r - 1))
    have O4 := Lib.hid (At.cell (O3.out.drewN nq) 2 (.int .i64 (r - 1)))
    clear d2 d3 f2 f3 A3 O3 w1 w4 w5 e1 e2 e3
    generalize ((w3.drewN nq).setCell ⟨d, 2, none⟩ (.int .i64 (r - 1))) = w4 at *
    go_loopg [] 2 (fun j wr => ∃ t : DSt, j ≤ 2 ∧ Enc.lw j ≤ t.sz ∧ t.sz < 4294967296 ∧ 0 ≤ t.co ∧ t.co < t.sz ∧ Hid (Byt t.bs) ∧ t.n + j ≤ 900000000002 ∧ Hid (dnorm j t = takeS ⟨bs, n, co, sz⟩ lo ow al) ∧ Hid (Is wr d 69 .i64 t v) ∧ Hid (At d w wr))
    case atStart => exact ⟨⟨bs, n, r - 1, r⟩, Nat.le_refl _, by show (256 : Int) ≤ r; omega, by simp only; omega, x0, by simp only; omega, BY, by simp only; omega, HT.out.symm, A4, O4⟩
    case round =>
      clear A4 O4 HT BY
      obtain ⟨t, hj2, hlw, ts1, t0, t1, BY, hnn, HN, A3, O3⟩ := hrel
      have d3 := A3.out.blk.cell (i := 3) rfl
      have f3 := A3.out.blk.free 3
      by_cases hc : t.sz < 16777216
      · have hg : 0 < gk := by
          rcases Nat.eq_zero_or_pos gk with h | h
          · subst h; have : (16777216 : Int) ≤ t.sz := hlw; omega
          · exact h
        obtain ⟨j, rfl⟩ : ∃ j, gk = j + 1 := ⟨gk - 1, by omega⟩
        have HSt : Hid (dnorm (j + 1) t = dnorm j (nextS ⟨t.bs, t.n, t.co, t.sz * 256⟩)) := Lib.hid (by show (if t.sz < 16777216 then dnorm j (nextS ⟨t.bs, t.n, t.co, t.sz * 256⟩) else t) = _; rw [if_pos hc])
        have hlw2 : Enc.lw j ≤ t.sz * 256 := by
          rcases (show j = 0 ∨ j = 1 by omega) with h | h
          · subst h; have : (65536 : Int) ≤ t.sz := hlw; show (16777216 : Int) ≤ _; omega
          · subst h; have : (256 : Int) ≤ t.sz := hlw; show (65536 : Int) ≤ _; omega
        have NX := Lib.hid (rnext_calls (A3.out.sz_ (t.sz * 256)) BY.out t0 (by simp only; omega) (by simp only; omega))
        have O4 := Lib.hid (At.cell O3.out 3 (.int .i64 (t.sz * 256)))
        have w1 : IntKind.i64.wrap (t.sz * 256) = t.sz * 256 := wrapI64 (by omega) (by omega)
        have hbt := bt_bd (s := ⟨t.bs, t.n, t.co, t.sz * 256⟩) BY.out
        clear hlw
        obtain ⟨tsz, htz⟩ : ∃ tsz, t.sz = tsz := ⟨_, rfl⟩
        rw [htz] at d3 ts1 t1 hc hlw2 O4 NX HSt w1 hbt
        clear htz
        go_wp2_with (go_at_call 68; refine NX.out.mono ?_; rintro e w4 ⟨rfl, a4, o4⟩; have A4 := Lib.hid a4; have O5 := Lib.hid (O4.out.trans o4); clear a4 o4)
        go_roundg j
        case measure => omega
        case rel => exact ⟨nextS ⟨t.bs, t.n, t.co, tsz * 256⟩, by omega, hlw2, by show tsz * 256 < _; omega, by show 0 ≤ t.co * 256 + _; omega, by show t.co * 256 + _ < tsz * 256; omega, BY, by show t.n + 1 + j ≤ _; omega, HSt.out.symm.trans HN.out, A4, O5⟩
      · have HF : Hid (takeS ⟨bs, n, co, sz⟩ lo ow al = t) := Lib.hid (HN.out.symm.trans (by
          cases gk with
          | zero => rfl
          | succ j => show (if t.sz < 16777216 then dnorm j _ else t) = _; rw [if_neg hc]))
        clear HN
        go_wp2
        rw [HF.out]
        exact bodyPost_end (results_none rfl _ _ _) rfl ⟨rfl, A3.out, O3.out⟩
  · obtain rfl : x = co - q := by omega
    clear hx
    go_wp2_with fail
    have A4 := Lib.hid (A3.out.drewN nq)
    have O4 := Lib.hid (O3.out.drewN nq)
    clear d2 d3 f2 f3 A3 O3 w1 w4 w5 e1 e2 e3
    generalize (w3.drewN nq) = w4 at *
    go_loopg [] 2 (fun j wr => ∃ t : DSt, j ≤ 2 ∧ Enc.lw j ≤ t.sz ∧ t.sz < 4294967296 ∧ 0 ≤ t.co ∧ t.co < t.sz ∧ Hid (Byt t.bs) ∧ t.n + j ≤ 900000000002 ∧ Hid (dnorm j t = takeS ⟨bs, n, co, sz⟩ lo ow al) ∧ Hid (Is wr d 69 .i64 t v) ∧ Hid (At d w wr))
    case atStart => exact ⟨⟨bs, n, co - q, r⟩, Nat.le_refl _, by show (256 : Int) ≤ r; omega, by simp only; omega, x0, by simp only; omega, BY, by simp only; omega, HT.out.symm, A4, O4⟩
    case round =>
      clear A4 O4 HT BY
      obtain ⟨t, hj2, hlw, ts1, t0, t1, BY, hnn, HN, A3, O3⟩ := hrel
      have d3 := A3.out.blk.cell (i := 3) rfl
      have f3 := A3.out.blk.free 3
      by_cases hc : t.sz < 16777216
      · have hg : 0 < gk := by
          rcases Nat.eq_zero_or_pos gk with h | h
          · subst h; have : (16777216 : Int) ≤ t.sz := hlw; omega
          · exact h
        obtain ⟨j, rfl⟩ : ∃ j, gk = j + 1 := ⟨gk - 1, by omega⟩
        have HSt : Hid (dnorm (j + 1) t = dnorm j (nextS ⟨t.bs, t.n, t.co, t.sz * 256⟩)) := Lib.hid (by show (if t.sz < 16777216 then dnorm j (nextS ⟨t.bs, t.n, t.co, t.sz * 256⟩) else t) = _; rw [if_pos hc])
        have hlw2 : Enc.lw j ≤ t.sz * 256 := by
          rcases (show j = 0 ∨ j = 1 by omega) with h | h
          · subst h; have : (65536 : Int) ≤ t.sz := hlw; show (16777216 : Int) ≤ _; omega
          · subst h; have : (256 : Int) ≤ t.sz := hlw; show (65536 : Int) ≤ _; omega
        have NX := Lib.hid (rnext_calls (A3.out.sz_ (t.sz * 256)) BY.out t0 (by simp only; omega) (by simp only; omega))
        have O4 := Lib.hid (At.cell O3.out 3 (.int .i64 (t.sz * 256)))
        have w1 : IntKind.i64.wrap (t.sz * 256) = t.sz * 256 := wrapI64 (by omega) (by omega)
        have hbt := bt_bd (s := ⟨t.bs, t.n, t.co, t.sz * 256⟩) BY.out
        clear hlw
        obtain ⟨tsz, htz⟩ : ∃ tsz, t.sz = tsz := ⟨_, rfl⟩
        rw [htz] at d3 ts1 t1 hc hlw2 O4 NX HSt w1 hbt
        clear htz
        go_wp2_with (go_at_call 68; refine NX.out.mono ?_; rintro e w4 ⟨rfl, a4, o4⟩; have A4 := Lib.hid a4; have O5 := Lib.hid (O4.out.trans o4); clear a4 o4)
        go_roundg j
        case measure => omega
        case rel => exact ⟨nextS ⟨t.bs, t.n, t.co, tsz * 256⟩, by omega, hlw2, by show tsz * 256 < _; omega, by show 0 ≤ t.co * 256 + _; omega, by show t.co * 256 + _ < tsz * 256; omega, BY, by show t.n + 1 + j ≤ _; omega, HSt.out.symm.trans HN.out, A4, O5⟩
      · have HF : Hid (takeS ⟨bs, n, co, sz⟩ lo ow al = t) := Lib.hid (HN.out.symm.trans (by
          cases gk with
          | zero => rfl
          | succ j => show (if t.sz < 16777216 then dnorm j _ else t) = _; rw [if_neg hc]))
        clear HN
        go_wp2
        rw [HF.out]
        exact bodyPost_end (results_none rfl _ _ _) rfl ⟨rfl, A3.out, O3.out⟩
set_option maxHeartbeats 2000000 in
set_option maxRecDepth 100000 in
theorem Open_calls {w : World} {u : Value} {bs : List Int} (src : Src w .u8 u bs) (hb : Byt bs) :
    Calls Try.prog 34 #[u] w fun e w' => ∃ d v, e = .returned (.pointer (some ⟨d, 0, none⟩)) ∧ w.heap.size ≤ d ∧ (∀ g, v.ownBlock = some g → w.heap.size ≤ g) ∧ Is w' d 69 .i64 (openS bs) v ∧ Below w.heap.size w w' := by
  have hl := hb.2
  have S0 := Lib.hid (Sl.empty w 5 .u8)
  have SR := Lib.hid (Src.below src ((Below.refl _ _).alloc (Nat.le_refl _) (.cells #[] 5) : Below _ _ _))
  have HB := Lib.hid hb
  clear src hb
  go_enter Try.func34, Try.ntmps34
  go_wp2_with (at_builtin; refine wpList_add (.tmp 5) (.tmp 6) 35 5 .u8 0 1 rfl rfl Try.underlying35 Enc.info_u8 _ _ [] bs rfl rfl S0.out SR.out (by simp; omega) (by simp; omega) ?_
               intro v1 w1 hp
               have S1 := Lib.hid hp.sl
               have O1 := Lib.hid (Added.fresh hp).2
               have hs1 := (Added.fresh hp).1.size
               have B1 := Lib.hid (Added.fresh hp).1
               clear hp
               obtain ⟨ad, cap, rfl, _⟩ := S1.out.form
               rw [List.nil_append] at S1 O1)
  have HI : Hid (Is (w1.alloc (.cells #[.slice ad bs.length cap, .int .i64 0, .int .i64 0, .int .i64 4294967295] 69)) w1.heap.size 69 .i64 ⟨bs, 0, 0, 4294967295⟩ (.slice ad bs.length cap)) :=
    Lib.hid ⟨Blk.new w1 _ _, S1.out.alloc _, fun e => by have := S1.out.lt e; omega⟩
  have B2 : Hid (Below w.heap.size w (w1.alloc (.cells #[.slice ad bs.length cap, .int .i64 0, .int .i64 0, .int .i64 4294967295] 69))) := Lib.hid (B1.out.alloc hs1 _)
  clear B1
  go_loopw [4] (fun i wr => ∃ (k : Nat) (t : DSt), k ≤ 4 ∧ i = .int .i64 (k : Int) ∧ Hid (nexts (4 - k) t = openS bs) ∧ Hid (Byt t.bs) ∧ 0 ≤ t.co ∧ Hid (t.co < 256 ^ k) ∧ t.n = k ∧ Hid (Is wr w1.heap.size 69 .i64 t (.slice ad bs.length cap)) ∧ Hid (Below w.heap.size w wr)) (fun i _ => 4 - (intOf i).toNat)
  case atStart => exact ⟨0, ⟨bs, 0, 0, 4294967295⟩, by omega, rfl, rfl, HB, by simp only; omega, Lib.hid (by show (0 : Int) < 256 ^ 0; decide), rfl, HI, B2⟩
  case round =>
    clear HI B2 HB
    obtain ⟨k, t, hk, rfl, HN, HB, t0, HL, hn, HI, B2⟩ := hrel
    by_cases hlt : k < 4
    · have hp := pow_lt4 hlt
      have hL := HL.out
      have NX := Lib.hid (rnext_calls HI.out HB.out t0 (by omega) (by omega))
      clear hp hL
      go_wp2_with (go_at_call 68; refine NX.out.mono ?_; rintro e w4 ⟨rfl, a4, o4⟩; have A4 := Lib.hid a4; have O5 := Lib.hid o4; clear a4 o4)
      go_roundw
      case rel =>
        have hbt := bt_bd HB.out
        refine ⟨k + 1, nextS t, by omega, by push_cast; rfl, ?_, HB, by show 0 ≤ t.co * 256 + _; omega, ?_, by show t.n + 1 = k + 1; omega, A4, B2.out.trans (O5.out.below (by have := B2.out.size; omega) (fun i hi => by omega))⟩
        · have e : 4 - k = (4 - (k + 1)) + 1 := by omega
          have := HN.out
          rw [e] at this
          exact this
        · have hL := HL.out
          show t.co * 256 + _ < (256 : Int) ^ (k + 1)
          rw [Int.pow_succ]; omega
      case measure => simp [intOf]; omega
    · obtain rfl : k = 4 := by omega
      have hN : t = openS bs := HN.out
      subst hN
      go_wp2
      go_ret
      exact ⟨w1.heap.size, _, rfl, hs1, O1.out, HI.out, B2.out⟩
attribute [local irreducible] takeS atS
set_option maxHeartbeats 2000000 in
set_option maxRecDepth 100000 in
theorem RSymbol_yes {w : World} {d m h cap : Nat} {s : DSt} {v : Value} {L : List Int} {f : Bool} (a : Is w d 69 .i64 s v) (ok : s.Ready) (hn : s.n ≤ 900000000000) (b : Mdl.IsR w m h cap L f) (good : Mdl.Good L)
    (n1 : d ≠ m) (n2 : d ≠ h) (n3 : v.ownBlock ≠ some m) (n4 : v.ownBlock ≠ some h) :
    Calls Try.prog 36 #[.pointer (some ⟨d, 0, none⟩), .pointer (some ⟨m, 0, none⟩)] w fun e w' => e = .returned (.int .i64 (symK s L)) ∧
      Is w' d 69 .i64 (symS s L) v ∧ Mdl.IsR w' m h cap (Mdl.next f L (symK s L)) f ∧ Only (fun i => i = d ∨ (i = m ∨ i = h)) w w' := by
  have A := Lib.hid a
  have B := Lib.hid b
  have G := Lib.hid good
  have OK := Lib.hid ok
  have N3 := Lib.hid n3
  have N4 := Lib.hid n4
  have lm := b.blk.lt
  have lh := b.row.lt
  have ld := a.blk.lt
  have hl64 := good.len2
  have hall := good.all
  have d0 := b.blk.cell (i := 0) rfl
  have hk0 := sym_lt (s := s) good
  have HK := Lib.hid (sym_lt (s := s) good)
  have MY := Lib.hid (Enc.may_of good _ (sym_lt (s := s) good))
  have LE := Lib.hid (sym_le ok good)
  have HS : Hid (symS s L = takeS s (Mdl.lsum (L.take (symK s L))) (L.getD (symK s L) 0) (Mdl.lsum L)) := Lib.hid rfl
  have HF : Hid (Mdl.find L (atS s (Mdl.lsum L)) = symK s L) := Lib.hid rfl
  have AB := Lib.hid (at_bd ok good.sum1 good.all)
  have C2 := Lib.hid (Mdl.RSum_calls b good.nonneg (by omega) L.length (Nat.le_refl _) hl64)
  rw [List.take_of_length_le (Nat.le_refl _)] at C2
  have al0 := Lib.hid good.sum1
  have al1 := Lib.hid good.all
  have CA := Lib.hid (rat_calls a ok (Mdl.lsum L) good.sum1 good.all)
  have dk := b.row.cell hk0
  have hg : L.getD (symK s L) 0 = L[symK s L] := Dig.getD_get L _ hk0
  rw [hg] at MY HS
  generalize L[symK s L]'hk0 = ow at *
  have FD := Lib.hid (fun n => Mdl.RFind_calls (b.drewN n) good (atS s (Mdl.lsum L)) AB.out.1 (by have := AB.out.2; omega))
  rw [HF.out] at FD
  obtain ⟨al, hal⟩ : ∃ al, Mdl.lsum L = al := ⟨_, rfl⟩
  rw [hal] at MY LE HS HF AB al0 al1 C2 hall CA FD
  clear hal
  obtain ⟨k, hk⟩ : ∃ k, symK s L = k := ⟨_, rfl⟩
  rw [hk] at HK MY LE HS HF hk0 dk FD ⊢
  clear hk hg
  obtain ⟨lo, hlo⟩ : ∃ x, Mdl.lsum (L.take k) = x := ⟨_, rfl⟩
  rw [hlo] at MY HS LE
  have HLo := Lib.hid hlo
  clear hlo a b good ok n3 n4
  obtain ⟨n, hn2⟩ : ∃ n, L.length = n := ⟨_, rfl⟩
  have HN := Lib.hid hn2
  rw [hn2] at d0 C2 HK hk0
  clear hn2
  have ik : (k : Int) < (n : Int) := by omega
  obtain ⟨x, hx⟩ : ∃ x, atS s al = x := ⟨_, rfl⟩
  rw [hx] at CA FD
  clear hx
  go_enter Try.func36, Try.ntmps36
  go_wp2_with fail
  refine C2.out.mono ?_
  rintro e1 w1 ⟨rfl, he⟩
  subst w1
  go_wp2_with fail
  refine CA.out.mono ?_
  rintro e2 w2 ⟨rfl, nd, rfl⟩
  go_wp2_with fail
  refine (FD.out nd).mono ?_
  rintro e3 w3 ⟨rfl, rfl⟩
  have A2 := Lib.hid (A.out.drewN nd)
  have B2 := Lib.hid (B.out.drewN nd)
  have O2 : Hid (Only (fun i => i = d ∨ (i = m ∨ i = h)) w (w.drewN nd)) := Lib.hid ((Only.refl _ w).drewN nd)
  have d0 : (w.drewN nd).cell? ⟨m, 0, none⟩ = _ := d0
  have dk : (w.drewN nd).cell? ⟨h, k, none⟩ = _ := dk
  clear C2 CA FD A B
  generalize w.drewN nd = w2 at *
  have C1 : Hid (∀ n, Calls Try.prog 63 #[.pointer (some ⟨m, 0, none⟩), .int .i64 k] (w2.drewN n) fun e w' => e = .returned (.int .i64 lo) ∧ w' = w2.drewN n) :=
    Lib.hid (fun n => by have := Mdl.RSum_calls (B2.out.drewN n) G.out.nonneg (by have := G.out.all; omega) k (by rw [HN.out]; omega) hl64; rwa [HLo.out] at this)
  go_wp2_with fail
  refine region_quiet_tail 12 (by kernel_rfl) (by kernel_rfl) ?_
  simp only [List.take_succ_cons, List.take_zero, List.drop_succ_cons, List.drop_zero]
  repeat (quiet_step ((go_at_call 63; first | (with_reducible exact Calls.quiet_of_same (C1.out _)))))
  refine wpQuiet_nil ?_
  rintro _ ⟨nq, rfl⟩
  have CT := Lib.hid (rtake_calls (A2.out.drewN nq) OK.out lo ow al MY.out LE.out hn)
  go_wp2_with fail
  refine CT.out.mono ?_
  rintro e4 w4 ⟨rfl, a4, o4⟩
  have A4 := Lib.hid a4
  have B4 : Hid (Mdl.IsR w4 m h cap L f) := Lib.hid ((B2.out.drewN nq).only o4 (fun hh => n1 hh.symm) (fun hh => n2 hh.symm))
  have O4 : Hid (Only (fun i => i = d ∨ (i = m ∨ i = h)) w w4) := Lib.hid ((O2.out.drewN nq).then o4 (fun i hi => .inl (.inl hi)))
  clear a4 o4 CT A2 B2 O2 C1 d0 dk
  have HK2 : Hid (k < L.length) := Lib.hid (by rw [HN.out]; exact hk0)
  go_wp2_with fail
  refine (Mdl.RLearn_any B4.out G.out k HK2.out).mono ?_
  rintro e5 w5 ⟨rfl, b5, o5⟩
  have A5 := Lib.hid (A4.out.only o5 (fun hh => by rcases hh with hh | hh; exact n1 hh; exact n2 hh) (fun g hg hh => by
    rcases hh with hh | hh
    · subst hh; exact N3.out hg
    · subst hh; exact N4.out hg))
  have B5 := Lib.hid b5
  have O5 : Hid (Only (fun i => i = d ∨ (i = m ∨ i = h)) w w5) := Lib.hid (O4.out.then o5 (fun i hi => .inl (.inr hi)))
  clear b5 o5
  go_wp2_with fail
  go_ret
  rw [HS.out]
  exact ⟨rfl, A5.out, B5.out, O5.out⟩
attribute [local irreducible] bitsD
set_option maxHeartbeats 2000000 in
set_option maxRecDepth 100000 in
theorem RBits_yes {w : World} {d : Nat} {s : DSt} {v : Value} (a : Is w d 69 .i64 s v) (ok : s.Ready) (hn : s.n ≤ 800000000000) (wide : Nat) (h2 : wide ≤ 24) :
    Calls Try.prog 38 #[.pointer (some ⟨d, 0, none⟩), .int .i64 wide] w fun en w' => en = .returned (.int .i64 (bitsD s 0 wide).1) ∧ Is w' d 69 .i64 (bitsD s 0 wide).2 v ∧ At d w w' := by
  have A := Lib.hid a
  have R0 := Lib.hid ok
  clear a ok
  go_enter Try.func38, Try.ntmps38
  go_wp2
  go_loopw [1, 5] (fun u nv wr => ∃ (j : Nat) (t : DSt) (n : Int), j ≤ 24 ∧ u = .int .i64 (j : Int) ∧ nv = .int .i64 n ∧ 0 ≤ n ∧ Hid ((n + 1) * 2 ^ j ≤ 16777216) ∧ Hid (bitsD t n j = bitsD s 0 wide) ∧ Hid t.Ready ∧ t.n + 4 * j ≤ 900000000000 ∧ Hid (Is wr d 69 .i64 t v) ∧ Hid (At d w wr)) (fun u _ _ => (intOf u).toNat)
  case atStart => exact ⟨wide, s, 0, h2, rfl, rfl, Int.le_refl _, Lib.hid (by have := pow24 h2; omega), rfl, R0, by omega, A, At.refl d w⟩
  case round =>
    clear A R0
    obtain ⟨j, t, n, hj, rfl, rfl, n0, HL, HN, R0, hkk, A, O⟩ := hrel
    have hd := A.out.blk.lt
    by_cases hz : 0 < j
    · obtain ⟨k, i, hk0, hk12, hji, hkm, hst⟩ := bits_more (n := n) R0.out hz hj
      have hp := pow12 hk12
      have HP := Lib.hid hp
      have hp8 : (2 : Int) ^ k ≤ 8192 := by omega
      have AR := Lib.hid (at_ready R0.out hp.1 hp8)
      have AM := Lib.hid (at_may R0.out hp.1 hp8)
      have AL := Lib.hid (at_le R0.out hp.1 hp8 (Int.le_refl _))
      have HSt := Lib.hid hst
      have ab := at_bd R0.out hp.1 hp8
      have hL : (n * 2 ^ k + atS t (2 ^ k) + 1) * 2 ^ i ≤ 16777216 ∧ n * 2 ^ k + atS t (2 ^ k) + 1 ≤ 16777216 := by
        have h1 := HL.out
        rw [hji, Nat.add_comm, Int.pow_add, ← Int.mul_assoc] at h1
        have hpi : (0 : Int) < 2 ^ i := Int.pow_pos (by omega)
        have h2 : (n + 1) * 2 ^ k = n * 2 ^ k + 2 ^ k := by rw [Int.add_mul, Int.one_mul]
        rw [h2] at h1
        have h3 : (n * 2 ^ k + atS t (2 ^ k) + 1) * 2 ^ i ≤ (n * 2 ^ k + 2 ^ k) * 2 ^ i := Int.mul_le_mul_of_nonneg_right (by omega) (by omega)
        have h4 : (n * 2 ^ k + atS t (2 ^ k) + 1) * 1 ≤ (n * 2 ^ k + atS t (2 ^ k) + 1) * 2 ^ i := Int.mul_le_mul_of_nonneg_left (by omega) (by have := Int.mul_nonneg n0 (show (0 : Int) ≤ 2 ^ k by omega); omega)
        omega
      have n1 : 0 ≤ n * 2 ^ k := Int.mul_nonneg n0 (by omega)
      have n2 : n * 2 ^ k < 16777216 := by omega
      have HLL := Lib.hid hL
      have HI : Hid (i < j ∧ i ≤ 24 ∧ t.n + 2 + 4 * i ≤ 900000000000) := Lib.hid (by omega)
      have hji2 : (j : Int) - (k : Int) = (i : Int) := by omega
      have PW := Lib.hid (fun wz : World => Enc.power_calls k (by omega) wz)
      have w1 : IntKind.i64.wrap (i : Int) = (i : Int) := wrapI64 (by omega) (by omega)
      clear hst hL HL
      obtain ⟨pk, hpk⟩ : ∃ pk : Int, (2 : Int) ^ k = pk := ⟨_, rfl⟩
      rw [hpk] at HP AR AM AL HSt ab n1 n2 HLL hp hp8 PW
      clear hpk
      obtain ⟨x, hx⟩ : ∃ x, atS t pk = x := ⟨_, rfl⟩
      have CA := Lib.hid (rat_calls A.out R0.out pk HP.out.1 (by have := HP.out.2; omega))
      rw [hx] at ab AR AM AL HSt HLL CA
      clear hx
      obtain ⟨y, hy⟩ : ∃ y, n * pk = y := ⟨_, rfl⟩
      rw [hy] at n1 n2 HSt HLL
      by_cases hc : 12 < j
      · obtain rfl : k = 12 := by omega
        have hc' : (12 : Int) < (j : Int) := by omega
        have hji2 : (j : Int) - 12 = (i : Int) := hji2
        clear hkm hji
        go_wp2_with fail
        refine (PW.out _).mono ?_
        rintro e1 w1 ⟨rfl, rfl⟩
        go_wp2_with fail
        refine CA.out.mono ?_
        rintro e2 w2 ⟨rfl, nq, rfl⟩
        have A1 := Lib.hid (A.out.drewN nq)
        have O1 := Lib.hid (O.out.drewN nq)
        have CT := Lib.hid (rtake_calls A1.out R0.out x 1 pk AM.out AL.out (by omega))
        clear A O CA
        go_wp2_with fail
        refine (PW.out _).mono ?_
        rintro e3 w3 ⟨rfl, rfl⟩
        go_wp2_with fail
        refine CT.out.mono ?_
        rintro e4 w4 ⟨rfl, a2, o2⟩
        have A2 := Lib.hid a2
        have O2 := Lib.hid (O1.out.trans o2)
        clear a2 o2 A1 O1 CT
        go_wp2_with fail
        refine (PW.out _).mono ?_
        rintro e5 w5 ⟨rfl, rfl⟩
        go_wp2_with fail
        go_roundw
        case rel => exact ⟨i, takeS t x 1 pk, y + x, HI.out.2.1, rfl, rfl, by omega, HLL.out.1, HSt.out.symm.trans HN.out, AR.out.1, by have := AR.out.2.2.2; have := HI.out.2.2; omega, A2, O2⟩
        case measure => simp [intOf]; exact HI.out.1
      · obtain rfl : k = j := by omega
        have hc' : ¬ (12 : Int) < (k : Int) := by omega
        clear hkm hji
        go_wp2_with fail
        refine (PW.out _).mono ?_
        rintro e1 w1 ⟨rfl, rfl⟩
        go_wp2_with fail
        refine CA.out.mono ?_
        rintro e2 w2 ⟨rfl, nq, rfl⟩
        have A1 := Lib.hid (A.out.drewN nq)
        have O1 := Lib.hid (O.out.drewN nq)
        have CT := Lib.hid (rtake_calls A1.out R0.out x 1 pk AM.out AL.out (by omega))
        clear A O CA
        go_wp2_with fail
        refine (PW.out _).mono ?_
        rintro e3 w3 ⟨rfl, rfl⟩
        go_wp2_with fail
        refine CT.out.mono ?_
        rintro e4 w4 ⟨rfl, a2, o2⟩
        have A2 := Lib.hid a2
        have O2 := Lib.hid (O1.out.trans o2)
        clear a2 o2 A1 O1 CT
        go_wp2_with fail
        refine (PW.out _).mono ?_
        rintro e5 w5 ⟨rfl, rfl⟩
        go_wp2_with fail
        go_roundw
        case rel => exact ⟨i, takeS t x 1 pk, y + x, HI.out.2.1, rfl, rfl, by omega, HLL.out.1, HSt.out.symm.trans HN.out, AR.out.1, by have := AR.out.2.2.2; have := HI.out.2.2; omega, A2, O2⟩
        case measure => simp [intOf]; exact HI.out.1
    · obtain rfl : j = 0 := by omega
      rw [bits_nought] at HN
      have HF := Lib.hid HN.out.symm
      clear HN
      go_wp2
      go_ret
      rw [HF.out]
      exact ⟨rfl, A.out, O.out⟩
end Go.Proofs.Ytlbjoflmfboeeaa.Deco
