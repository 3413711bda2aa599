/-
  The walks of the program's encoder: Put, Symbol, Bits, Len; no condition but those told.
-/
import Derived.Test.YtlbjoflmfboeeaaEnc
set_option linter.unusedVariables false
set_option linter.unusedSimpArgs false
namespace Go.Proofs.Ytlbjoflmfboeeaa.Enc
open Go.RowKit Go.Proofs.Ytlbjoflmfboeeaa Go.Proofs.YtlbjoflmfboeeaaW.PrintWords

def step1 (s : St) : St := shiftS ⟨s.lo, s.sz * 256, s.he, s.fi, s.out, s.be⟩
def norm : Nat → St → St
  | 0, s => s
  | n + 1, s => if s.sz < 16777216 then norm n (step1 s) else s
def putS (s : St) (lo ow al : Int) : St := norm 2 ⟨s.lo + s.sz / al * lo, s.sz / al * ow, s.he, s.fi, s.out, s.be⟩
/-- An encoder as it is between parts. -/
structure St.Ready (s : St) : Prop where
  lo0 : 0 ≤ s.lo
  sum : s.lo + s.sz < 8589934592
  sz0 : 16777216 ≤ s.sz
  sz1 : s.sz < 4294967296
  he0 : 1 ≤ s.he
  fi0 : 0 ≤ s.fi
  fi1 : s.fi < 256
theorem shiftS_lo (s : St) : 0 ≤ (shiftS s).lo ∧ (shiftS s).lo < 4294967296 := by
  unfold shiftS; split <;> (simp only; omega)
theorem shiftS_sz (s : St) : (shiftS s).sz = s.sz := by unfold shiftS; split <;> rfl
theorem shiftS_he (s : St) (h : 1 ≤ s.he) : 1 ≤ (shiftS s).he := by unfold shiftS; split <;> (simp only; omega)
theorem shiftS_fi (s : St) (h0 : 0 ≤ s.fi) (h1 : s.fi < 256) : 0 ≤ (shiftS s).fi ∧ (shiftS s).fi < 256 := by unfold shiftS; split <;> (simp only; omega)
theorem mul_bd (e x a sz : Int) (he : e = sz / a) (ha : 0 < a) (hx0 : 0 ≤ x) (hxa : x ≤ a) (hs : 0 ≤ sz) : 0 ≤ e * x ∧ e * x ≤ sz := by
  subst he
  have h1 : 0 ≤ sz / a := Int.ediv_nonneg hs (by omega)
  refine ⟨Int.mul_nonneg h1 hx0, ?_⟩
  have h2 : sz / a * x ≤ sz / a * a := Int.mul_le_mul_of_nonneg_left hxa h1
  have h3 : sz / a * a ≤ sz := Int.ediv_mul_le sz (by omega)
  omega
theorem each_lo (al sz : Int) (h1 : 1 ≤ al) (h2 : al ≤ 8192) (h3 : 16777216 ≤ sz) : 2048 ≤ sz / al := by
  rw [Int.le_ediv_iff_mul_le (by omega)]
  omega
def lw : Nat → Int
  | 0 => 16777216
  | 1 => 65536
  | _ => 256
/-- A part that may be. -/
def May (lo ow al : Int) : Prop := 0 ≤ lo ∧ 1 ≤ ow ∧ lo + ow ≤ al ∧ al ≤ 8192
theorem norm_ready (n : Nat) (hn : n ≤ 2) : ∀ (t : St), 0 ≤ t.lo → t.lo + t.sz < 8589934592 → lw n ≤ t.sz → t.sz < 4294967296 → 1 ≤ t.he → 0 ≤ t.fi → t.fi < 256 → (norm n t).Ready ∧ t.k ≤ (norm n t).k ∧ (norm n t).k ≤ t.k + n := by
  induction n with
  | zero =>
    intro t h1 h2 h3 h4 h5 h6 h7
    exact ⟨⟨h1, h2, h3, h4, h5, h6, h7⟩, Nat.le_refl _, Nat.le_refl _⟩
  | succ n ih =>
    intro t h1 h2 h3 h4 h5 h6 h7
    unfold norm
    by_cases hc : t.sz < 16777216
    · rw [if_pos hc]
      have hlw2 : lw n ≤ t.sz * 256 := by
        rcases (show n = 0 ∨ n = 1 by omega) with h | h
        · subst h; have : (65536 : Int) ≤ t.sz := h3; show (16777216 : Int) ≤ _; omega
        · subst h; have : (256 : Int) ≤ t.sz := h3; show (65536 : Int) ≤ _; omega
      have hs1 : step1 t = shiftS ⟨t.lo, t.sz * 256, t.he, t.fi, t.out, t.be⟩ := rfl
      have hl := shiftS_lo ⟨t.lo, t.sz * 256, t.he, t.fi, t.out, t.be⟩
      have hz := shiftS_sz ⟨t.lo, t.sz * 256, t.he, t.fi, t.out, t.be⟩
      have hh := shiftS_he ⟨t.lo, t.sz * 256, t.he, t.fi, t.out, t.be⟩ h5
      have hf := shiftS_fi ⟨t.lo, t.sz * 256, t.he, t.fi, t.out, t.be⟩ h6 h7
      have hk := shift_k ⟨t.lo, t.sz * 256, t.he, t.fi, t.out, t.be⟩ h5
      have hk3 : St.k ⟨t.lo, t.sz * 256, t.he, t.fi, t.out, t.be⟩ = t.k := rfl
      rw [← hs1] at hl hz hh hf hk
      simp only at hz
      obtain ⟨r1, r2, r3⟩ := ih (by omega) (step1 t) hl.1 (by omega) (by omega) (by omega) hh hf.1 hf.2
      exact ⟨r1, by omega, by omega⟩
    · rw [if_neg hc]
      exact ⟨⟨h1, h2, by omega, h4, h5, h6, h7⟩, Nat.le_refl _, by omega⟩
theorem put_ready {s : St} (ok : s.Ready) {lo ow al : Int} (may : May lo ow al) : (putS s lo ow al).Ready ∧ s.k ≤ (putS s lo ow al).k ∧ (putS s lo ow al).k ≤ s.k + 2 := by
  obtain ⟨p0, p1, p2, p3⟩ := may
  obtain ⟨l0, l1, s0, s1, h0, i0, i1⟩ := ok
  obtain ⟨each, hE⟩ : ∃ each, each = s.sz / al := ⟨_, rfl⟩
  have b3 := each_lo al s.sz (by omega) p3 s0
  have b1 := mul_bd each lo al s.sz hE (by omega) p0 (by omega) (by omega)
  have b2 := mul_bd each ow al s.sz hE (by omega) (by omega) (by omega) (by omega)
  have b6 := mul_bd each (lo + ow) al s.sz hE (by omega) (by omega) (by omega) (by omega)
  rw [Int.mul_add] at b6
  have b4 : each * 1 ≤ each * ow := Int.mul_le_mul_of_nonneg_left p1 (by omega)
  rw [Int.mul_one] at b4
  unfold putS
  rw [← hE] at b3 ⊢
  exact norm_ready 2 (by omega) ⟨s.lo + each * lo, each * ow, s.he, s.fi, s.out, s.be⟩ (by simp only; omega) (by simp only; omega) (by show (256 : Int) ≤ each * ow; omega) (by simp only; omega) h0 i0 i1
set_option maxHeartbeats 4000000 in
set_option maxRecDepth 100000 in
theorem Put_yes {w : World} {m : Nat} {s : St} {v : Value} (a : Is w m s v) (ok : s.Ready) (small : s.k ≤ 900000000) (lo ow al : Int) (may : May lo ow al) :
    Calls Try.prog 17 #[.pointer (some ⟨m, 0, none⟩), Mdl.part lo ow al] w fun e w' => ∃ v', e = .returned (.int .i64 0) ∧ Is w' m (putS s lo ow al) v' ∧ Step m v v' w w' := by
  obtain ⟨p0, p1, p2, p3⟩ := may
  obtain ⟨each, hE⟩ : ∃ each, each = s.sz / al := ⟨_, rfl⟩
  obtain ⟨q, hq⟩ : ∃ q, q = each * lo := ⟨_, rfl⟩
  obtain ⟨r, hr⟩ : ∃ r, r = each * ow := ⟨_, rfl⟩
  have hm := a.blk.lt
  have b1 := mul_bd each lo al s.sz hE (by omega) p0 (by omega) (by have := ok.sz0; omega)
  have b2 := mul_bd each ow al s.sz hE (by omega) (by omega) (by omega) (by have := ok.sz0; omega)
  have b3 := each_lo al s.sz (by omega) p3 ok.sz0
  have b6 := mul_bd each (lo + ow) al s.sz hE (by omega) (by omega) (by omega) (by have := ok.sz0; omega)
  rw [Int.mul_add] at b6
  have b4 : each * 1 ≤ each * ow := Int.mul_le_mul_of_nonneg_left p1 (by omega)
  rw [← hE] at b3
  rw [← hq] at b1 b6
  rw [← hr] at b2 b4 b6
  rw [Int.mul_one] at b4
  have hput : putS s lo ow al = norm 2 ⟨s.lo + q, r, s.he, s.fi, s.out, s.be⟩ := by unfold putS; rw [hq, hr, hE]
  have HPut := Lib.hid hput
  have e1 : Int.tdiv s.sz al = each := by rw [hE, Int.tdiv_eq_ediv_of_nonneg (by have := ok.sz0; omega)]
  have e1' : s.sz / al = each := hE.symm
  have e2 : each * lo = q := hq.symm
  have e3 : each * ow = r := hr.symm
  obtain ⟨l0, l1, s0, s1, h0, i0, i1⟩ := ok
  have A := Lib.hid a
  obtain ⟨slo, sz, he, fi, out, be⟩ := s
  have d0 := a.blk.cell (i := 0) rfl
  have d1 := a.blk.cell (i := 1) rfl
  have f0 := a.blk.free 0
  have f1 := a.blk.free 1
  simp only at *
  have z1 : al ≠ 0 := by omega
  have z2 : (al == 0) = false := by rw [beq_eq_false_iff_ne]; omega
  have z3 : (ow == 0) = false := by rw [beq_eq_false_iff_ne]; omega
  have b5 : each ≤ sz := by rw [hE]; exact Int.ediv_le_self _ (by omega)
  have e4 : IntKind.u32.wrap each = each := wraps_u32 _ (by omega) (by omega)
  have e5 : IntKind.u64.wrap q = q := wraps_u64 _ (by omega) (by omega)
  have e6 : IntKind.u64.wrap (slo + q) = slo + q := wraps_u64 _ (by omega) (by omega)
  have e7 : IntKind.u32.wrap r = r := wraps_u32 _ (by omega) (by omega)
  have e8 : r % 4294967296 = r := by omega
  have e9 : IntKind.u64.wrap each = each := wraps_u64 _ (by omega) (by omega)
  have e10 : IntKind.u64.wrap lo = lo := wraps_u64 _ (by omega) (by omega)
  have y1 : decide (8192 < al) = false := decide_eq_false (by omega)
  have y2 : decide (al ≤ lo) = false := decide_eq_false (by omega)
  have y3 : decide (al - lo < ow) = false := decide_eq_false (by omega)
  clear hE hq hr a hput
  unfold Mdl.part
  go_enter Try.func17, Try.ntmps17
  go_wp2
  go_quiet (fail)
  have hB : Below w.heap.size w ((w.alloc (.cells #[.int .u32 lo, .int .u32 ow, .int .u32 al] 31)).drewN nq) := pw_below_drewN ((Below.refl _ _).alloc (Nat.le_refl _) _) nq
  have A2 := Lib.hid (A.out.below hB)
  have P2 : Hid (Blk ((w.alloc (.cells #[.int .u32 lo, .int .u32 ow, .int .u32 al] 31)).drewN nq) w.heap.size 31 #[.int .u32 lo, .int .u32 ow, .int .u32 al]) := (Blk.new w _ _).drewN nq
  have S2 := Lib.hid ((Step.refl m v w).below hB)
  go_wp2
  clear d0 d1 f0 f1 A hB
  generalize ((w.alloc (.cells #[.int .u32 lo, .int .u32 ow, .int .u32 al] 31)).drewN nq) = w2 at *
  have d0 := A2.out.blk.cell (i := 0) rfl
  have d1 := A2.out.blk.cell (i := 1) rfl
  have f0 := A2.out.blk.free 0
  have f1 := A2.out.blk.free 1
  have c0 := P2.out.cell (i := 0) rfl
  have c1 := P2.out.cell (i := 1) rfl
  have c2 := P2.out.cell (i := 2) rfl
  go_still_tail 13, (by kernel_rfl)
  go_wp2
  have t1 : St.Ok ⟨slo + q, r, he, fi, out, be⟩ := ⟨by simp only; omega, by simp only; omega, by simp only; omega, by simp only; omega, h0, i0, i1, by simp only [St.k] at small ⊢; omega⟩
  have T1 := Lib.hid t1
  have A3 : Hid (Is ((w2.setCell ⟨m, 0, none⟩ (.int .u64 (slo + q))).setCell ⟨m, 1, none⟩ (.int .u32 r)).drew m ⟨slo + q, r, he, fi, out, be⟩ v) :=
    Lib.hid ⟨((A2.out.blk.set 0 (.int .u64 (slo + q))).set 1 (.int .u32 r)).drew, ((A2.out.sl.other (a := ⟨m, 0, none⟩) A2.out.ne (.int .u64 (slo + q))).other (a := ⟨m, 1, none⟩) A2.out.ne (.int .u32 r)).drew, A2.out.ne⟩
  have S3 := Lib.hid (((S2.out.set 0 (.int .u64 (slo + q))).set 1 (.int .u32 r)).drew)
  have hk1 : St.k ⟨slo + q, r, he, fi, out, be⟩ ≤ 900000000 := by simp only [St.k] at small ⊢; omega
  clear d0 d1 f0 f1 c0 c1 c2 A2 P2 S2 e1 e1' e2 e3 e4 e5 e6 e7 e8 e9 e10 t1
  go_loopg [] 2 (fun j wr => ∃ (t : St) (v' : Value), j ≤ 2 ∧ lw j ≤ t.sz ∧ Hid t.Ok ∧ Hid (norm j t = putS ⟨slo, sz, he, fi, out, be⟩ lo ow al) ∧ t.k + j ≤ 900000002 ∧ Hid (Is wr m t v') ∧ Hid (Step m v v' w wr))
  case atStart => exact ⟨_, v, Nat.le_refl _, by show (256 : Int) ≤ r; omega, T1, HPut.out.symm, by omega, A3, S3⟩
  case round =>
    clear T1 A3 S3 HPut hk1 small
    obtain ⟨t, v', hj2, hlw, T1, HN, hkk, A3, S3⟩ := hrel
    have d1 := A3.out.blk.cell (i := 1) rfl
    have f1 := A3.out.blk.free 1
    have ts1 := T1.out.sz1
    have ts0 := T1.out.sz0
    by_cases hc : t.sz < 16777216
    · have hg : 0 < gk := by
        rcases Nat.eq_zero_or_pos gk with h | h
        · subst h; have : (16777216 : Int) ≤ t.sz := hlw; omega
        · exact h
      obtain ⟨j, rfl⟩ : ∃ j, gk = j + 1 := ⟨gk - 1, by omega⟩
      have t2 : St.Ok ⟨t.lo, t.sz * 256, t.he, t.fi, t.out, t.be⟩ := ⟨T1.out.lo0, T1.out.lo1, by simp only; omega, by simp only; omega, T1.out.he0, T1.out.fi0, T1.out.fi1, by have := hkk; simp only [St.k] at this ⊢; omega⟩
      have A4 : Hid (Is (wr.setCell ⟨m, 1, none⟩ (.int .u32 (t.sz * 256))) m ⟨t.lo, t.sz * 256, t.he, t.fi, t.out, t.be⟩ v') :=
        Lib.hid ⟨A3.out.blk.set 1 (.int .u32 (t.sz * 256)), A3.out.sl.other (a := ⟨m, 1, none⟩) A3.out.ne _, A3.out.ne⟩
      have SH := Lib.hid (shift_calls A4.out t2)
      have hstep : norm (j + 1) t = norm j (step1 t) := by show (if t.sz < 16777216 then norm j (step1 t) else t) = _; rw [if_pos hc]
      have HSt := Lib.hid hstep
      have hlw2 : lw j ≤ t.sz * 256 := by
        rcases (show j = 0 ∨ j = 1 by omega) with h | h
        · subst h; have : (65536 : Int) ≤ t.sz := hlw; show (16777216 : Int) ≤ _; omega
        · subst h; have : (256 : Int) ≤ t.sz := hlw; show (65536 : Int) ≤ _; omega
      have T2 := Lib.hid t2
      clear hstep t2 hlw
      obtain ⟨tsz, htz⟩ : ∃ tsz, t.sz = tsz := ⟨_, rfl⟩
      have HTz := Lib.hid htz
      rw [htz] at d1 ts1 ts0 hc hlw2 A4 SH T2
      clear htz
      go_wp2_with (go_at_call 60; refine SH.out.mono ?_; rintro e w4 ⟨v4, rfl, a4, s4⟩; have A5 := Lib.hid a4; have S5 := Lib.hid s4; clear a4 s4)
      go_roundg j
      case measure => omega
      case rel =>
        have hs1 : step1 t = shiftS ⟨t.lo, tsz * 256, t.he, t.fi, t.out, t.be⟩ := by unfold step1; rw [HTz.out]
        rw [hs1] at HSt
        have hh := shiftS_he ⟨t.lo, tsz * 256, t.he, t.fi, t.out, t.be⟩ T2.out.he0
        have hf := shiftS_fi ⟨t.lo, tsz * 256, t.he, t.fi, t.out, t.be⟩ T2.out.fi0 T2.out.fi1
        have hl := shiftS_lo ⟨t.lo, tsz * 256, t.he, t.fi, t.out, t.be⟩
        have hz := shiftS_sz ⟨t.lo, tsz * 256, t.he, t.fi, t.out, t.be⟩
        have hkk2 := shift_k ⟨t.lo, tsz * 256, t.he, t.fi, t.out, t.be⟩ T2.out.he0
        have hk3 : St.k ⟨t.lo, tsz * 256, t.he, t.fi, t.out, t.be⟩ = t.k := rfl
        exact ⟨_, v4, by omega, by rw [hz]; exact hlw2, ⟨hl.1, by omega, by rw [hz]; exact T2.out.sz0, by rw [hz]; exact T2.out.sz1, hh, hf.1, hf.2, by omega⟩, HSt.out.symm.trans HN.out, by omega, A5, (S3.out.set 1 _).trans S5.out⟩
    · have hF : norm gk t = t := by
        cases gk with
        | zero => rfl
        | succ j => show (if t.sz < 16777216 then norm j (step1 t) else t) = _; rw [if_neg hc]
      have HF : Hid (putS ⟨slo, sz, he, fi, out, be⟩ lo ow al = t) := Lib.hid (HN.out.symm.trans hF)
      clear hF HN
      go_wp2
      go_ret
      rw [HF.out]
      exact ⟨rfl, v', A3.out, S3.out⟩
theorem Put_none (p : Value) (x y z : Value) (h : p = .agg #[x, y, z]) (w : World) :
    Calls Try.prog 17 #[.pointer none, p] w fun e w' => e = .returned (.int .i64 1) ∧ Below w.heap.size w w' := by
  subst h
  go_enter Try.func17, Try.ntmps17
  go_wp2
  go_ret
  exact ⟨rfl, ((Below.refl _ _).alloc (Nat.le_refl _) _ : Below _ _ _)⟩
theorem Put_bad (m : Nat) (lo ow al : Int) (h : ¬ May lo ow al) (l0 : 0 ≤ lo) (o0 : 0 ≤ ow) (a0 : 0 ≤ al) (a1 : al < 4294967296) (w : World) :
    Calls Try.prog 17 #[.pointer (some ⟨m, 0, none⟩), Mdl.part lo ow al] w fun e w' => e = .returned (.int .i64 1) ∧ Below w.heap.size w w' := by
  unfold May at h
  unfold Mdl.part
  have hb : Below w.heap.size w (w.alloc (.cells #[.int .u32 lo, .int .u32 ow, .int .u32 al] 31)) := (Below.refl _ _).alloc (Nat.le_refl _) _
  have HB := Lib.hid hb
  clear hb
  by_cases h1 : al = 0
  · have z : (al == 0) = true := by rw [beq_iff_eq]; exact h1
    clear h h1
    go_enter Try.func17, Try.ntmps17
    go_wp2
    go_ret
    exact ⟨rfl, HB.out⟩
  have z1 : (al == 0) = false := by rw [beq_eq_false_iff_ne]; exact h1
  by_cases h2 : 8192 < al
  · clear h h1
    go_enter Try.func17, Try.ntmps17
    go_wp2
    go_ret
    exact ⟨rfl, HB.out⟩
  by_cases h3 : ow = 0
  · have z : (ow == 0) = true := by rw [beq_iff_eq]; exact h3
    clear h h1 h3
    go_enter Try.func17, Try.ntmps17
    go_wp2
    go_ret
    exact ⟨rfl, HB.out⟩
  have z3 : (ow == 0) = false := by rw [beq_eq_false_iff_ne]; exact h3
  by_cases h4 : al ≤ lo
  · clear h h1 h3
    go_enter Try.func17, Try.ntmps17
    go_wp2
    go_ret
    exact ⟨rfl, HB.out⟩
  have h5 : al - lo < ow := by omega
  clear h h1 h3
  go_enter Try.func17, Try.ntmps17
  go_wp2
  go_ret
  exact ⟨rfl, HB.out⟩
end Go.Proofs.Ytlbjoflmfboeeaa.Enc
