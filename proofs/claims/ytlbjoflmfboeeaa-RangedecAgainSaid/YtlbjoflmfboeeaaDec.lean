/-
  The two decoders as one state, and the walks of the program's next, at, take, New; no condition but those told.
-/
import Derived.Test.YtlbjoflmfboeeaaEns
import Derived.Lib.SliceRun
set_option linter.unusedVariables false
set_option linter.unusedSimpArgs false
namespace Go.Proofs.Ytlbjoflmfboeeaa.Deco
open Go.RowKit Go.Proofs.Ytlbjoflmfboeeaa Go.Proofs.YtlbjoflmfboeeaaW.PrintWords

structure DSt where
  bs : List Int
  n : Nat
  co : Int
  sz : Int
/-- The byte that is taken next. -/
def bt (s : DSt) : Int := s.bs.getD s.n 0
def nextS (s : DSt) : DSt := ⟨s.bs, s.n + 1, s.co * 256 + bt s, s.sz⟩
def dnorm : Nat → DSt → DSt
  | 0, s => s
  | k + 1, s => if s.sz < 16777216 then dnorm k (nextS ⟨s.bs, s.n, s.co, s.sz * 256⟩) else s
def takeS (s : DSt) (lo ow al : Int) : DSt := dnorm 2 ⟨s.bs, s.n, min (s.co - s.sz / al * lo) (s.sz / al * ow - 1), s.sz / al * ow⟩
def atS (s : DSt) (al : Int) : Int := min (s.co / (s.sz / al)) (al - 1)
def openS (bs : List Int) : DSt := nextS (nextS (nextS (nextS ⟨bs, 0, 0, 4294967295⟩)))
def Byt (bs : List Int) : Prop := (∀ x ∈ bs, 0 ≤ x ∧ x ≤ 255) ∧ bs.length ≤ 1000000000
theorem bt_bd {s : DSt} (h : Byt s.bs) : 0 ≤ bt s ∧ bt s ≤ 255 := by
  unfold bt
  rw [List.getD_eq_getElem?_getD]
  by_cases hn : s.n < s.bs.length
  · rw [List.getElem?_eq_getElem hn]; exact h.1 _ (List.getElem_mem hn)
  · rw [List.getElem?_eq_none (by omega)]; decide
structure DSt.Ready (s : DSt) : Prop where
  by_ : Byt s.bs
  c0 : 0 ≤ s.co
  c1 : s.co ≤ s.sz
  s0 : 16777216 ≤ s.sz
  s1 : s.sz < 4294967296
/-- A decoder in memory: its struct's type and the kind of its numbers. -/
structure Is (w : World) (d : Nat) (t : TypeId) (k : IntKind) (s : DSt) (v : Value) : Prop where
  blk : Blk w d t #[v, .int .i64 s.n, .int k s.co, .int k s.sz]
  sl : Sl w 5 .u8 v s.bs
  ne : v.ownBlock ≠ some d
section
variable {w w' : World} {d : Nat} {t : TypeId} {k : IntKind} {s : DSt} {v : Value}
theorem Is.only {S : Nat → Prop} (a : Is w d t k s v) (o : Only S w w') (h1 : ¬ S d) (h2 : ∀ g, v.ownBlock = some g → ¬ S g) : Is w' d t k s v :=
  ⟨a.blk.of_same (o.block d a.blk.lt h1), a.sl.only o h2, a.ne⟩
theorem Is.below (a : Is w d t k s v) (b : Below w.heap.size w w') : Is w' d t k s v := a.only (Only.of_below b : Only (fun _ => False) _ _) (fun h => h) (fun _ _ h => h)
theorem Is.drew (a : Is w d t k s v) : Is w.drew d t k s v := ⟨a.blk.drew, a.sl.drew, a.ne⟩
theorem Is.drewN (a : Is w d t k s v) (n : Nat) : Is (w.drewN n) d t k s v := ⟨a.blk.drewN n, a.sl.drewN n, a.ne⟩
theorem Is.inc (a : Is w d t k s v) : Is (w.setCell ⟨d, 1, none⟩ (.int .i64 ((s.n : Int) + 1))) d t k ⟨s.bs, s.n + 1, s.co, s.sz⟩ v :=
  ⟨by have := a.blk.set 1 (.int .i64 ((s.n : Int) + 1)); simpa using this, a.sl.other (a := ⟨d, 1, none⟩) a.ne _, a.ne⟩
theorem Is.co_ (a : Is w d t k s v) (c : Int) : Is (w.setCell ⟨d, 2, none⟩ (.int k c)) d t k ⟨s.bs, s.n, c, s.sz⟩ v :=
  ⟨a.blk.set 2 (.int k c), a.sl.other (a := ⟨d, 2, none⟩) a.ne _, a.ne⟩
theorem Is.sz_ (a : Is w d t k s v) (z : Int) : Is (w.setCell ⟨d, 3, none⟩ (.int k z)) d t k ⟨s.bs, s.n, s.co, z⟩ v :=
  ⟨a.blk.set 3 (.int k z), a.sl.other (a := ⟨d, 3, none⟩) a.ne _, a.ne⟩
end
/-- Only this block turned. -/
abbrev At (d : Nat) : World → World → Prop := Only (fun i => i = d)
theorem At.refl (d : Nat) (w : World) : At d w w := Only.refl _ w
theorem At.cell {d : Nat} {w w' : World} (h : At d w w') (i : Nat) (u : Value) : At d w (w'.setCell ⟨d, i, none⟩ u) := Only.set h (p := ⟨d, i, none⟩) (.inl rfl) u
attribute [local irreducible] bt
set_option maxHeartbeats 2000000 in
set_option maxRecDepth 100000 in
theorem next_calls {w : World} {d : Nat} {s : DSt} {v : Value} (a : Is w d 120 .u32 s v) (hb : Byt s.bs) (c0 : 0 ≤ s.co) (c1 : s.co < 16777216) (hn : s.n ≤ 1000000000000) :
    Calls Try.prog 67 #[.pointer (some ⟨d, 0, none⟩)] w fun e w' => e = .returned (.tuple #[]) ∧ Is w' d 120 .u32 (nextS s) v ∧ At d w w' := by
  have hbt := bt_bd hb
  have HBt : Hid (bt s = s.bs.getD s.n 0) := Lib.hid (by unfold bt; rfl)
  have A := Lib.hid a
  obtain ⟨bs, n, co, sz⟩ := s
  simp only at *
  have d2 := a.blk.cell (i := 2) rfl
  have f2 := a.blk.free 2
  have hl := hb.2
  have HNx : Hid (nextS ⟨bs, n, co, sz⟩ = ⟨bs, n + 1, co * 256 + bt ⟨bs, n, co, sz⟩, sz⟩) := Lib.hid rfl
  generalize bt ⟨bs, n, co, sz⟩ = x at *
  clear a hb
  have e1 : IntKind.u32.wrap (co * 256) = co * 256 := Enc.wraps_u32 _ (by omega) (by omega)
  go_enter Try.func67, Try.ntmps67
  go_wp2
  have A2 := Lib.hid (A.out.co_ (co * 256))
  have O2 := Lib.hid ((At.refl d w).cell 2 (.int .u32 (co * 256)))
  clear d2 f2 A
  generalize w.setCell ⟨d, 2, none⟩ (.int .u32 (co * 256)) = w2 at *
  have d0 := A2.out.blk.cell (i := 0) rfl
  have d1 := A2.out.blk.cell (i := 1) rfl
  have d2 := A2.out.blk.cell (i := 2) rfl
  have f1 := A2.out.blk.free 1
  have f2 := A2.out.blk.free 2
  by_cases hc : n < bs.length
  · obtain ⟨g, cap, rfl, hr⟩ : ∃ g cap, v = .slice (some ⟨g, 0, none⟩) bs.length cap ∧ RowI w2 5 .u8 g cap bs := by
      rcases A2.out.sl with ⟨_, h⟩ | h
      · simp only at h; subst h; simp at hc
      · exact h
    have d3 := hr.cell hc
    have hx : bs[n] = x := by rw [HBt.out, List.getD_eq_getElem?_getD, List.getElem?_eq_getElem hc]; rfl
    rw [hx] at d3
    have e2 : bits .or .u32 (co * 256) x = co * 256 + x := bits_join .u32 32 (by decide) Enc.wraps_u32 8 _ _ (by omega) (by omega) (by omega) (by omega) (by omega) (by omega)
    have e3 : IntKind.u32.wrap x = x := Enc.wraps_u32 _ (by omega) (by omega)
    have HC := Lib.hid hc
    have i1 : (n : Int) < bs.length := by omega
    clear hr hx HBt
    go_quiet (fail)
    have A3 := Lib.hid (A2.out.drewN nq)
    have O3 := Lib.hid (O2.out.drewN nq)
    clear d0 d1 d2 f1 f2 A2 O2
    have d3 : (w2.drewN nq).cell? ⟨g, n, none⟩ = some (.int .u8 x) := d3
    generalize w2.drewN nq = w3 at *
    have d0 := A3.out.blk.cell (i := 0) rfl
    have d1 := A3.out.blk.cell (i := 1) rfl
    have d2 := A3.out.blk.cell (i := 2) rfl
    have f1 := A3.out.blk.free 1
    have f2 := A3.out.blk.free 2
    go_wp2
    go_still_tail 18, (by kernel_rfl)
    go_wp2
    rw [HNx.out]
    exact bodyPost_end (results_none rfl _ _ _) rfl ⟨rfl, (A3.out.co_ _).inc.drew, ((At.cell O3.out 2 _).cell 1 _).drew⟩
  · have hx : x = 0 := by rw [HBt.out, List.getD_eq_getElem?_getD, List.getElem?_eq_none (by omega)]; rfl
    have HC := Lib.hid hc
    subst hx
    rw [Int.add_zero] at HNx
    obtain ⟨ad, cap, rfl, _⟩ := A2.out.sl.form
    have i1 : ¬ (n : Int) < bs.length := by omega
    clear HBt
    go_quiet (fail)
    have A3 := Lib.hid (A2.out.drewN nq)
    have O3 := Lib.hid (O2.out.drewN nq)
    clear d0 d1 d2 f1 f2 A2 O2
    generalize w2.drewN nq = w3 at *
    have d1 := A3.out.blk.cell (i := 1) rfl
    have f1 := A3.out.blk.free 1
    go_wp2
    rw [HNx.out]
    exact bodyPost_end (results_none rfl _ _ _) rfl ⟨rfl, A3.out.inc, At.cell O3.out 1 _⟩
theorem at_calls {w : World} {d : Nat} {s : DSt} {v : Value} (a : Is w d 120 .u32 s v) (ok : s.Ready) (al : Int) (a0 : 1 ≤ al) (a1 : al ≤ 8192) :
    Calls Try.prog 70 #[.pointer (some ⟨d, 0, none⟩), .int .u32 al] w fun e w' => e = .returned (.int .u32 (atS s al)) ∧ ∃ n, w' = w.drewN n := by
  have d2 := a.blk.cell (i := 2) rfl
  have d3 := a.blk.cell (i := 3) rfl
  obtain ⟨each, hE⟩ : ∃ each, each = s.sz / al := ⟨_, rfl⟩
  have b3 := Enc.each_lo al s.sz a0 a1 ok.s0
  rw [← hE] at b3
  have HA : Hid (atS s al = min (s.co / each) (al - 1)) := Lib.hid (by unfold atS; rw [hE])
  have e1 : Int.tdiv s.sz al = each := by rw [hE, Int.tdiv_eq_ediv_of_nonneg (by have := ok.s0; omega)]
  have b5 : each ≤ s.sz := by rw [hE]; exact Int.ediv_le_self _ (by have := ok.s0; omega)
  obtain ⟨hb, c0, c1, s0, s1⟩ := ok
  obtain ⟨q, hq⟩ : ∃ q, q = s.co / each := ⟨_, rfl⟩
  have e2 : Int.tdiv s.co each = q := by rw [hq, Int.tdiv_eq_ediv_of_nonneg c0]
  have q0 : 0 ≤ q := by rw [hq]; exact Int.ediv_nonneg c0 (by omega)
  have q1 : q ≤ s.co := by rw [hq]; exact Int.ediv_le_self _ c0
  have e1' : s.sz / al = each := hE.symm
  have e2' : s.co / each = q := hq.symm
  rw [← hq] at HA
  have z1 : al ≠ 0 := by omega
  have z2 : (al == 0) = false := by rw [beq_eq_false_iff_ne]; omega
  have z3 : each ≠ 0 := by omega
  have z4 : (each == 0) = false := by rw [beq_eq_false_iff_ne]; omega
  have w1 : IntKind.u32.wrap each = each := Enc.wraps_u32 _ (by omega) (by omega)
  have w2 : IntKind.u32.wrap q = q := Enc.wraps_u32 _ (by omega) (by omega)
  have w3 : IntKind.u32.wrap (al - 1) = al - 1 := Enc.wraps_u32 _ (by omega) (by omega)
  clear hE hq a hb
  obtain ⟨bs, n, co, sz⟩ := s
  simp only at *
  go_enter Try.func70, Try.ntmps70
  go_wp2
  go_quiet (fail)
  by_cases h : al - 1 < q
  · have hm : min q (al - 1) = al - 1 := by omega
    rw [hm] at HA
    go_wp2
    go_ret
    rw [HA.out]
    exact ⟨rfl, nq, rfl⟩
  · have hm : min q (al - 1) = q := by omega
    rw [hm] at HA
    go_wp2
    go_ret
    rw [HA.out]
    exact ⟨rfl, nq, rfl⟩
set_option maxHeartbeats 4000000 in
set_option maxRecDepth 100000 in
theorem take_calls {w : World} {d : Nat} {s : DSt} {v : Value} (a : Is w d 120 .u32 s v) (ok : s.Ready) (lo ow al : Int) (may : Enc.May lo ow al) (le : s.sz / al * lo ≤ s.co) (hn : s.n ≤ 900000000000) :
    Calls Try.prog 71 #[.pointer (some ⟨d, 0, none⟩), Mdl.part lo ow al] w fun e w' => e = .returned (.tuple #[]) ∧ Is w' d 120 .u32 (takeS s lo ow al) v ∧ At d w w' := by
  obtain ⟨p0, p1, p2, p3⟩ := may
  have hd := a.blk.lt
  obtain ⟨each, hE⟩ : ∃ each, each = s.sz / al := ⟨_, rfl⟩
  obtain ⟨q, hq⟩ : ∃ q, q = each * lo := ⟨_, rfl⟩
  obtain ⟨r, hr⟩ : ∃ r, r = each * ow := ⟨_, rfl⟩
  have b1 := Enc.mul_bd each lo al s.sz hE (by omega) p0 (by omega) (by have := ok.s0; omega)
  have b2 := Enc.mul_bd each ow al s.sz hE (by omega) (by omega) (by omega) (by have := ok.s0; omega)
  have b3 := Enc.each_lo al s.sz (by omega) p3 ok.s0
  have b4 : each * 1 ≤ each * ow := Int.mul_le_mul_of_nonneg_left p1 (by omega)
  have b5 : each ≤ s.sz := by rw [hE]; exact Int.ediv_le_self _ (by have := ok.s0; omega)
  have HT : Hid (takeS s lo ow al = dnorm 2 ⟨s.bs, s.n, min (s.co - q) (r - 1), r⟩) := Lib.hid (by unfold takeS; rw [hq, hr, hE])
  have e1 : Int.tdiv s.sz al = each := by rw [hE, Int.tdiv_eq_ediv_of_nonneg (by have := ok.s0; omega)]
  have e1' : s.sz / al = each := hE.symm
  rw [← hE, ← hq] at le
  rw [← hE] at b3
  rw [← hq] at b1
  rw [← hr] at b2 b4
  rw [Int.mul_one] at b4
  have e2 : each * lo = q := hq.symm
  have e3 : each * ow = r := hr.symm
  have BY := Lib.hid ok.by_
  have A := Lib.hid a
  have d3 := a.blk.cell (i := 3) rfl
  obtain ⟨_, c0, c1, s0, s1⟩ := ok
  obtain ⟨bs, n, co, sz⟩ := s
  simp only at *
  have z1 : al ≠ 0 := by omega
  have z2 : (al == 0) = false := by rw [beq_eq_false_iff_ne]; omega
  have w1 : IntKind.u32.wrap each = each := Enc.wraps_u32 _ (by omega) (by omega)
  have w2 : IntKind.u32.wrap q = q := Enc.wraps_u32 _ (by omega) (by omega)
  have w3 : IntKind.u32.wrap r = r := Enc.wraps_u32 _ (by omega) (by omega)
  have w4 : IntKind.u32.wrap (co - q) = co - q := Enc.wraps_u32 _ (by omega) (by omega)
  have w5 : IntKind.u32.wrap (r - 1) = r - 1 := Enc.wraps_u32 _ (by omega) (by omega)
  clear hE hq hr a
  unfold Mdl.part
  go_enter Try.func71, Try.ntmps71
  go_wp2
  go_quiet (fail)
  have hB : Below w.heap.size w ((w.alloc (.cells #[.int .u32 lo, .int .u32 ow, .int .u32 al] 31)).drewN nq) := pw_below_drewN ((Below.refl _ _).alloc (Nat.le_refl _) _) nq
  have A2 := Lib.hid (A.out.below hB)
  have P2 : Hid (Blk ((w.alloc (.cells #[.int .u32 lo, .int .u32 ow, .int .u32 al] 31)).drewN nq) w.heap.size 31 #[.int .u32 lo, .int .u32 ow, .int .u32 al]) := (Blk.new w _ _).drewN nq
  have O2 : Hid (At d w ((w.alloc (.cells #[.int .u32 lo, .int .u32 ow, .int .u32 al] 31)).drewN nq)) := Lib.hid (Only.of_below hB)
  clear d3 A hB
  generalize ((w.alloc (.cells #[.int .u32 lo, .int .u32 ow, .int .u32 al] 31)).drewN nq) = w2 at *
  have d2 := A2.out.blk.cell (i := 2) rfl
  have d3 := A2.out.blk.cell (i := 3) rfl
  have f2 := A2.out.blk.free 2
  have f3 := A2.out.blk.free 3
  have c0' := P2.out.cell (i := 0) rfl
  have c1' := P2.out.cell (i := 1) rfl
  have c2' := P2.out.cell (i := 2) rfl
  go_wp2
  go_still_tail 11, (by kernel_rfl)
  go_wp2_with fail
  have A3 := Lib.hid ((A2.out.co_ (co - q)).sz_ r).drew
  have O3 := Lib.hid ((At.cell O2.out 2 (.int .u32 (co - q))).cell 3 (.int .u32 r)).drew
  clear d2 d3 f2 f3 c0' c1' c2' A2 O2 P2
  generalize ((w2.setCell ⟨d, 2, none⟩ (.int .u32 (co - q))).setCell ⟨d, 3, none⟩ (.int .u32 r)).drew = w3 at *
  have d2 := A3.out.blk.cell (i := 2) rfl
  have d3 := A3.out.blk.cell (i := 3) rfl
  have f2 := A3.out.blk.free 2
  simp only at d2 d3
  obtain ⟨x, hx⟩ : ∃ x, x = min (co - q) (r - 1) := ⟨_, rfl⟩
  have m1 : (if r - 1 < co - q then r - 1 else co - q) = x := by omega
  have m2 : mn (co - q) (r - 1) = x := by unfold mn; omega
  have x0 : 0 ≤ x := by omega
  have x1 : x ≤ r - 1 := by omega
  rw [← hx] at HT
  clear hx
  go_still_tail 13, (by kernel_rfl)
  go_wp2_with fail
  have A4 := Lib.hid (A3.out.co_ x).drew
  have O4 := Lib.hid (At.cell O3.out 2 (.int .u32 x)).drew
  clear d2 d3 f2 A3 O3 m1 m2 w1 w4 w5 e1 e1' e2 e3
  generalize (w3.setCell ⟨d, 2, none⟩ (.int .u32 x)).drew = w4 at *
  go_loopg [] 2 (fun j wr => ∃ t : DSt, j ≤ 2 ∧ Enc.lw j ≤ t.sz ∧ t.sz < 4294967296 ∧ 0 ≤ t.co ∧ t.co < t.sz ∧ Hid (Byt t.bs) ∧ t.n + j ≤ 900000000002 ∧ Hid (dnorm j t = takeS ⟨bs, n, co, sz⟩ lo ow al) ∧ Hid (Is wr d 120 .u32 t v) ∧ Hid (At d w wr))
  case atStart => exact ⟨⟨bs, n, x, r⟩, Nat.le_refl _, by show (256 : Int) ≤ r; omega, by simp only; omega, x0, by simp only; omega, BY, by simp only; omega, HT.out.symm, A4, O4⟩
  case round =>
    clear A4 O4 HT BY
    obtain ⟨t, hj2, hlw, ts1, t0, t1, BY, hnn, HN, A3, O3⟩ := hrel
    have d3 := A3.out.blk.cell (i := 3) rfl
    have f3 := A3.out.blk.free 3
    by_cases hc : t.sz < 16777216
    · have hg : 0 < gk := by
        rcases Nat.eq_zero_or_pos gk with h | h
        · subst h; have : (16777216 : Int) ≤ t.sz := hlw; omega
        · exact h
      obtain ⟨j, rfl⟩ : ∃ j, gk = j + 1 := ⟨gk - 1, by omega⟩
      have HSt : Hid (dnorm (j + 1) t = dnorm j (nextS ⟨t.bs, t.n, t.co, t.sz * 256⟩)) := Lib.hid (by show (if t.sz < 16777216 then dnorm j (nextS ⟨t.bs, t.n, t.co, t.sz * 256⟩) else t) = _; rw [if_pos hc])
      have hlw2 : Enc.lw j ≤ t.sz * 256 := by
        rcases (show j = 0 ∨ j = 1 by omega) with h | h
        · subst h; have : (65536 : Int) ≤ t.sz := hlw; show (16777216 : Int) ≤ _; omega
        · subst h; have : (256 : Int) ≤ t.sz := hlw; show (65536 : Int) ≤ _; omega
      have NX := Lib.hid (next_calls (A3.out.sz_ (t.sz * 256)) BY.out t0 (by simp only; omega) (by simp only; omega))
      have O4 := Lib.hid (At.cell O3.out 3 (.int .u32 (t.sz * 256)))
      have w1 : IntKind.u32.wrap (t.sz * 256) = t.sz * 256 := Enc.wraps_u32 _ (by omega) (by omega)
      have hbt := bt_bd (s := ⟨t.bs, t.n, t.co, t.sz * 256⟩) BY.out
      clear hlw
      obtain ⟨tsz, htz⟩ : ∃ tsz, t.sz = tsz := ⟨_, rfl⟩
      rw [htz] at d3 ts1 t1 hc hlw2 O4 NX HSt w1 hbt
      clear htz
      go_wp2_with (go_at_call 67; refine NX.out.mono ?_; rintro e w4 ⟨rfl, a4, o4⟩; have A4 := Lib.hid a4; have O5 := Lib.hid (O4.out.trans o4); clear a4 o4)
      go_roundg j
      case measure => omega
      case rel => exact ⟨nextS ⟨t.bs, t.n, t.co, tsz * 256⟩, by omega, hlw2, by show tsz * 256 < _; omega, by show 0 ≤ t.co * 256 + _; omega, by show t.co * 256 + _ < tsz * 256; omega, BY, by show t.n + 1 + j ≤ _; omega, HSt.out.symm.trans HN.out, A4, O5⟩
    · have HF : Hid (takeS ⟨bs, n, co, sz⟩ lo ow al = t) := Lib.hid (HN.out.symm.trans (by
        cases gk with
        | zero => rfl
        | succ j => show (if t.sz < 16777216 then dnorm j _ else t) = _; rw [if_neg hc]))
      clear HN
      go_wp2
      rw [HF.out]
      exact bodyPost_end (results_none rfl _ _ _) rfl ⟨rfl, A3.out, O3.out⟩
theorem dnorm_ready (k : Nat) (hk : k ≤ 2) : ∀ t : DSt, Byt t.bs → 0 ≤ t.co → t.co < t.sz → Enc.lw k ≤ t.sz → t.sz < 4294967296 → (dnorm k t).Ready ∧ (dnorm k t).bs = t.bs ∧ t.n ≤ (dnorm k t).n ∧ (dnorm k t).n ≤ t.n + k ∧ (dnorm k t).co < (dnorm k t).sz := by
  induction k with
  | zero => intro t h1 h2 h3 h4 h5; exact ⟨⟨h1, h2, by simp only [dnorm]; omega, h4, h5⟩, rfl, Nat.le_refl _, Nat.le_refl _, h3⟩
  | succ k ih =>
    intro t h1 h2 h3 h4 h5
    unfold dnorm
    by_cases hc : t.sz < 16777216
    · rw [if_pos hc]
      have hlw2 : Enc.lw k ≤ t.sz * 256 := by
        rcases (show k = 0 ∨ k = 1 by omega) with h | h
        · subst h; have : (65536 : Int) ≤ t.sz := h4; show (16777216 : Int) ≤ _; omega
        · subst h; have : (256 : Int) ≤ t.sz := h4; show (65536 : Int) ≤ _; omega
      have hb := bt_bd (s := ⟨t.bs, t.n, t.co, t.sz * 256⟩) h1
      obtain ⟨r1, r2, r3, r4, r5⟩ := ih (by omega) (nextS ⟨t.bs, t.n, t.co, t.sz * 256⟩) h1 (by show 0 ≤ t.co * 256 + _; omega) (by show t.co * 256 + _ < t.sz * 256; omega) hlw2 (by show t.sz * 256 < _; omega)
      have e1 : (nextS ⟨t.bs, t.n, t.co, t.sz * 256⟩).n = t.n + 1 := rfl
      exact ⟨r1, r2, by omega, by omega, r5⟩
    · rw [if_neg hc]
      exact ⟨⟨h1, h2, by omega, by omega, h5⟩, rfl, Nat.le_refl _, by omega, h3⟩
/-- What is taken may be taken. -/
theorem take_ready {s : DSt} (ok : s.Ready) {lo ow al : Int} (may : Enc.May lo ow al) (le : s.sz / al * lo ≤ s.co) : (takeS s lo ow al).Ready ∧ (takeS s lo ow al).bs = s.bs ∧ s.n ≤ (takeS s lo ow al).n ∧ (takeS s lo ow al).n ≤ s.n + 2 := by
  obtain ⟨p0, p1, p2, p3⟩ := may
  have s0 := ok.s0
  have s1 := ok.s1
  obtain ⟨each, hE⟩ : ∃ each, each = s.sz / al := ⟨_, rfl⟩
  have b2 := Enc.mul_bd each ow al s.sz hE (by omega) (by omega) (by omega) (by omega)
  have b3 := Enc.each_lo al s.sz (by omega) p3 s0
  have b4 : each * 1 ≤ each * ow := Int.mul_le_mul_of_nonneg_left p1 (by rw [hE]; omega)
  unfold takeS
  rw [← hE] at b3 le ⊢
  obtain ⟨r1, r2, r3, r4, _⟩ := dnorm_ready 2 (by omega) ⟨s.bs, s.n, min (s.co - each * lo) (each * ow - 1), each * ow⟩ ok.by_ (by simp only; omega) (by simp only; omega) (by show (256 : Int) ≤ each * ow; omega) (by simp only; omega)
  exact ⟨r1, r2, r3, r4⟩
/-- The part that is there, lies at or below the number. -/
theorem at_le {s : DSt} (ok : s.Ready) {al x : Int} (a0 : 1 ≤ al) (a1 : al ≤ 8192) (h : x ≤ atS s al) : s.sz / al * x ≤ s.co := by
  have b3 := Enc.each_lo al s.sz a0 a1 ok.s0
  have h2 : x ≤ s.co / (s.sz / al) := by unfold atS at h; omega
  have h3 : s.sz / al * x ≤ s.sz / al * (s.co / (s.sz / al)) := Int.mul_le_mul_of_nonneg_left h2 (by omega)
  have h4 : s.sz / al * (s.co / (s.sz / al)) ≤ s.co := by rw [Int.mul_comm]; exact Int.ediv_mul_le _ (by omega)
  omega
theorem at_bd {s : DSt} (ok : s.Ready) {al : Int} (a0 : 1 ≤ al) (a1 : al ≤ 8192) : 0 ≤ atS s al ∧ atS s al ≤ al - 1 := by
  have b3 := Enc.each_lo al s.sz a0 a1 ok.s0
  have h2 : 0 ≤ s.co / (s.sz / al) := Int.ediv_nonneg ok.c0 (by omega)
  unfold atS
  omega
theorem next_bd {s : DSt} (h : Byt s.bs) {B : Int} (h0 : 0 ≤ s.co) (h1 : s.co < B) : Byt (nextS s).bs ∧ 0 ≤ (nextS s).co ∧ (nextS s).co < B * 256 := by
  have := bt_bd h
  exact ⟨h, by show 0 ≤ s.co * 256 + bt s; omega, by show s.co * 256 + bt s < _; omega⟩
theorem open_ready (bs : List Int) (h : Byt bs) : (openS bs).Ready := by
  have h1 := next_bd (s := ⟨bs, 0, 0, 4294967295⟩) h (B := 1) (by show (0 : Int) ≤ 0; decide) (by show (0 : Int) < 1; decide)
  have h2 := next_bd h1.1 h1.2.1 h1.2.2
  have h3 := next_bd h2.1 h2.2.1 h2.2.2
  have h4 := next_bd h3.1 h3.2.1 h3.2.2
  refine ⟨h4.1, h4.2.1, ?_, by show (16777216 : Int) ≤ 4294967295; decide, by show (4294967295 : Int) < 4294967296; decide⟩
  show (openS bs).co ≤ 4294967295
  have := h4.2.2
  unfold openS
  omega
theorem Sl.empty (w : World) (e : TypeId) (k : IntKind) : Sl (w.alloc (.cells #[] e)) e k (.slice (some ⟨w.heap.size, 0, none⟩) 0 0) [] :=
  .inr ⟨w.heap.size, 0, rfl, #[], Blk.new w e #[], Nat.le_refl _, Nat.zero_le _, rfl, fun i h => by cases h⟩
theorem Added.fresh {w w1 : World} {o : Obj} {e : TypeId} {k : IntKind} {v1 : Value} {ys : List Int} (h : Added (w.alloc o) w1 e k (.slice (some ⟨w.heap.size, 0, none⟩) 0 0) v1 ys (w.alloc o).heap.size) :
    Below w.heap.size w w1 ∧ ∀ g, v1.ownBlock = some g → w.heap.size ≤ g := by
  have hs : (w.alloc o).heap.size = w.heap.size + 1 := by simp
  have e0 : (Value.slice (some ⟨w.heap.size, 0, none⟩) 0 0).ownBlock = some w.heap.size := rfl
  refine ⟨((Below.refl _ _).alloc (Nat.le_refl _) _ : Below _ _ _).trans (h.only.below (B := w.heap.size) (by omega) (fun i hi => ?_)), fun g hg => ?_⟩
  · rw [e0] at hi; injection hi with hi; omega
  · rcases h.at_ with h1 | h1
    · rw [h1, e0] at hg; injection hg with hg; omega
    · rw [h1] at hg; injection hg with hg; omega
set_option maxRecDepth 100000 in
/-- A copy. -/
theorem Clone_calls {w : World} {u : Value} {bs : List Int} (src : Src w .u8 u bs) (hl : bs.length ≤ 1000000000) : Calls Try.prog 66 #[u] w fun e w' => ∃ v, e = .returned v ∧ Sl w' 5 .u8 v bs ∧ Below w.heap.size w w' ∧ (∀ g, v.ownBlock = some g → w.heap.size ≤ g) := by
  obtain ⟨A, c, rfl, h⟩ := src
  have H := Lib.hid h
  have qT : ∀ (w : World) (a : Option Addr) (n c n' c' : Nat), (binOp .eql 35 (.slice a n c) (.slice none n' c')).run Try.prog w = .ok (.bool a.isNone) w := fun w a n c n' c' => Lib.run_eql_slice_nil w _ _ a n c n' c' Try.underlying35
  cases A with
  | none =>
    have h0 : bs = [] := by
      by_cases hp : 0 < bs.length
      · obtain ⟨ad, h, _⟩ := h hp; cases h
      · exact List.eq_nil_of_length_eq_zero (by omega)
    subst h0
    clear h H hl
    go_enter Try.func66, Try.ntmps66
    go_wp2
    go_ret
    exact ⟨_, rfl, Sl.nil _ _ _, Below.refl _ _, fun g hg => by cases hg⟩
  | some ad =>
    clear h
    have h0 : Sl (w.alloc (.cells #[] 5)) 5 .u8 (.slice (some ⟨w.heap.size, 0, none⟩) 0 0) [] := Sl.empty w _ _
    have SR : Src (w.alloc (.cells #[] 5)) .u8 (.slice (some ad) bs.length c) bs := Src.below ⟨some ad, c, rfl, H.out⟩ ((Below.refl _ _).alloc (Nat.le_refl _) _)
    have S0 := Lib.hid h0
    have SR := Lib.hid SR
    clear h0
    go_enter Try.func66, Try.ntmps66
    go_wp2_with (first
      | (at_builtin; refine wpList_add (.tmp 5) (.tmp 6) 35 5 .u8 0 1 rfl rfl Try.underlying35 Enc.info_u8 _ _ [] bs rfl rfl S0.out SR.out (by simp; omega) (by simp; omega) ?_
         intro v1 w1 hp
         have HP := Lib.hid hp
         clear hp))
    go_ret
    exact ⟨v1, rfl, HP.out.sl, Added.fresh HP.out⟩
def nexts : Nat → DSt → DSt
  | 0, s => s
  | n + 1, s => nexts n (nextS s)
theorem open_nexts (bs : List Int) : openS bs = nexts 4 ⟨bs, 0, 0, 4294967295⟩ := rfl
theorem pow_lt4 {k : Nat} (h : k < 4) : (256 : Int) ^ k ≤ 16777216 := by
  rcases (show k = 0 ∨ k = 1 ∨ k = 2 ∨ k = 3 by omega) with h | h | h | h <;> subst h <;> decide
set_option maxHeartbeats 2000000 in
set_option maxRecDepth 100000 in
theorem New_calls {w : World} {u : Value} {bs : List Int} (src : Src w .u8 u bs) (hb : Byt bs) :
    Calls Try.prog 33 #[u] w fun e w' => ∃ d v, e = .returned (.pointer (some ⟨d, 0, none⟩)) ∧ w.heap.size ≤ d ∧ (∀ g, v.ownBlock = some g → w.heap.size ≤ g) ∧ Is w' d 120 .u32 (openS bs) v ∧ Below w.heap.size w w' := by
  have HC := Lib.hid (Clone_calls src hb.2)
  have HB := Lib.hid hb
  clear src hb
  go_enter Try.func33, Try.ntmps33
  go_wp2_with fail
  refine HC.out.mono ?_
  rintro e1 w1 ⟨v1, rfl, sl, b1, own⟩
  have hs1 := b1.size
  have S1 := Lib.hid sl
  have B1 := Lib.hid b1
  have O1 := Lib.hid own
  clear sl b1 own
  obtain ⟨ad, cap, rfl, _⟩ := S1.out.form
  have HI : Hid (Is (w1.alloc (.cells #[.slice ad bs.length cap, .int .i64 0, .int .u32 0, .int .u32 4294967295] 120)) w1.heap.size 120 .u32 ⟨bs, 0, 0, 4294967295⟩ (.slice ad bs.length cap)) :=
    Lib.hid ⟨Blk.new w1 _ _, S1.out.alloc _, fun e => by have := S1.out.lt e; omega⟩
  have B2 : Hid (Below w.heap.size w (w1.alloc (.cells #[.slice ad bs.length cap, .int .i64 0, .int .u32 0, .int .u32 4294967295] 120))) := Lib.hid (B1.out.alloc hs1 _)
  clear B1
  go_wp2_with fail
  go_loopw [8] (fun i wr => ∃ (k : Nat) (t : DSt), k ≤ 4 ∧ i = .int .i64 (k : Int) ∧ Hid (nexts (4 - k) t = openS bs) ∧ Hid (Byt t.bs) ∧ 0 ≤ t.co ∧ Hid (t.co < 256 ^ k) ∧ t.n = k ∧ Hid (Is wr w1.heap.size 120 .u32 t (.slice ad bs.length cap)) ∧ Hid (Below w.heap.size w wr)) (fun i _ => 4 - (intOf i).toNat)
  case atStart => exact ⟨0, ⟨bs, 0, 0, 4294967295⟩, by omega, rfl, rfl, HB, by simp only; omega, Lib.hid (by show (0 : Int) < 256 ^ 0; decide), rfl, HI, B2⟩
  case round =>
    clear HI B2 HB
    obtain ⟨k, t, hk, rfl, HN, HB, t0, HL, hn, HI, B2⟩ := hrel
    by_cases hlt : k < 4
    · have hp := pow_lt4 hlt
      have hL := HL.out
      have NX := Lib.hid (next_calls HI.out HB.out t0 (by omega) (by omega))
      clear hp hL
      go_wp2_with (go_at_call 67; refine NX.out.mono ?_; rintro e w4 ⟨rfl, a4, o4⟩; have A4 := Lib.hid a4; have O5 := Lib.hid o4; clear a4 o4)
      go_roundw
      case rel =>
        have hbt := bt_bd HB.out
        refine ⟨k + 1, nextS t, by omega, by push_cast; rfl, ?_, HB, by show 0 ≤ t.co * 256 + _; omega, ?_, by show t.n + 1 = k + 1; omega, A4, B2.out.trans (O5.out.below (by have := B2.out.size; omega) (fun i hi => by omega))⟩
        · have e : 4 - k = (4 - (k + 1)) + 1 := by omega
          have := HN.out
          rw [e] at this
          exact this
        · have hL := HL.out
          show t.co * 256 + _ < (256 : Int) ^ (k + 1)
          rw [Int.pow_succ]; omega
      case measure => simp [intOf]; omega
    · obtain rfl : k = 4 := by omega
      have hN : t = openS bs := HN.out
      subst hN
      go_wp2
      go_ret
      exact ⟨w1.heap.size, _, rfl, hs1, O1.out, HI.out, B2.out⟩
end Go.Proofs.Ytlbjoflmfboeeaa.Deco
