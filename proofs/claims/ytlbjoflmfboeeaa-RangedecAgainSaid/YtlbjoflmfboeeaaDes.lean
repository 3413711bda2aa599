/-
  The walks of the program's decoder: Symbol, Bits, Over; no condition but those told.
-/
import Derived.Test.YtlbjoflmfboeeaaDec
set_option linter.unusedVariables false
set_option linter.unusedSimpArgs false
namespace Go.Proofs.Ytlbjoflmfboeeaa.Deco
open Go.RowKit Go.Proofs.Ytlbjoflmfboeeaa Go.Proofs.YtlbjoflmfboeeaaW.PrintWords

/-- The symbol that comes. -/
def symK (s : DSt) (L : List Int) : Nat := Mdl.find L (atS s (Mdl.lsum L))
def symS (s : DSt) (L : List Int) : DSt := takeS s (Mdl.lsum (L.take (symK s L))) (L.getD (symK s L) 0) (Mdl.lsum L)
theorem find_low (L : List Int) (x : Int) (h0 : 0 ≤ x) : Mdl.lsum (L.take (Mdl.find L x)) ≤ x := by
  rcases Nat.eq_zero_or_pos (Mdl.find L x) with h | h
  · rw [h]; exact h0
  · have := Mdl.find_before L x (Mdl.find L x - 1) (by omega)
    rwa [show Mdl.find L x - 1 + 1 = Mdl.find L x from by omega] at this
theorem sym_lt {s : DSt} {L : List Int} (good : Mdl.Good L) : symK s L < L.length := Mdl.find_lt L _ good.len1
theorem sym_le {s : DSt} (ok : s.Ready) {L : List Int} (good : Mdl.Good L) : s.sz / Mdl.lsum L * Mdl.lsum (L.take (symK s L)) ≤ s.co :=
  at_le ok good.sum1 good.all (find_low L _ (at_bd ok good.sum1 good.all).1)
theorem sym_ready {s : DSt} (ok : s.Ready) {L : List Int} (good : Mdl.Good L) : (symS s L).Ready ∧ (symS s L).bs = s.bs ∧ s.n ≤ (symS s L).n ∧ (symS s L).n ≤ s.n + 2 :=
  take_ready ok (Enc.may_of good _ (sym_lt good)) (sym_le ok good)
attribute [local irreducible] takeS atS bt
set_option maxHeartbeats 2000000 in
set_option maxRecDepth 100000 in
theorem Symbol_yes {w : World} {d m h cap : Nat} {s : DSt} {v : Value} {L : List Int} {f : Bool} (a : Is w d 120 .u32 s v) (ok : s.Ready) (hn : s.n ≤ 900000000000) (b : Mdl.Is w m h cap L f) (good : Mdl.Good L)
    (n1 : d ≠ m) (n2 : d ≠ h) (n3 : v.ownBlock ≠ some m) (n4 : v.ownBlock ≠ some h) :
    Calls Try.prog 35 #[.pointer (some ⟨d, 0, none⟩), .pointer (some ⟨m, 0, none⟩)] w fun e w' => e = .returned (.tuple #[.int .i64 (symK s L), .int .i64 0]) ∧
      Is w' d 120 .u32 (symS s L) v ∧ Mdl.Is w' m h cap (Mdl.next f L (symK s L)) f ∧ Only (fun i => i = d ∨ (i = m ∨ i = h)) w w' := by
  have A := Lib.hid a
  have B := Lib.hid b
  have G := Lib.hid good
  have OK := Lib.hid ok
  have N3 := Lib.hid n3
  have N4 := Lib.hid n4
  have lm := b.blk.lt
  have lh := b.row.lt
  have ld := a.blk.lt
  have OL : Hid (∀ g, v.ownBlock = some g → g < w.heap.size) := Lib.hid (fun g hg => a.sl.lt hg)
  have HK := Lib.hid (sym_lt (s := s) good)
  have MY := Lib.hid (Enc.may_of good _ (sym_lt (s := s) good))
  have LE := Lib.hid (sym_le ok good)
  have HS : Hid (symS s L = takeS s (Mdl.lsum (L.take (symK s L))) (L.getD (symK s L) 0) (Mdl.lsum L)) := Lib.hid rfl
  have HF : Hid (Mdl.find L (atS s (Mdl.lsum L)) = symK s L) := Lib.hid rfl
  have AB := Lib.hid (at_bd ok good.sum1 good.all)
  have l1 := good.len1
  have P1 := Lib.hid (Mdl.Part_some b good 0 (by omega))
  have al0 := Lib.hid good.sum1
  have al1 := Lib.hid good.all
  clear a b good ok n3 n4
  obtain ⟨al, hal⟩ : ∃ al, Mdl.lsum L = al := ⟨_, rfl⟩
  rw [hal] at MY LE HS HF AB P1 al0 al1
  obtain ⟨x0, hx0⟩ : ∃ x, Mdl.lsum (L.take 0) = x := ⟨_, rfl⟩
  obtain ⟨y0, hy0⟩ : ∃ x, L.getD 0 0 = x := ⟨_, rfl⟩
  rw [hx0, hy0] at P1
  clear hx0 hy0
  have HA := Lib.hid hal
  clear hal
  obtain ⟨k, hk⟩ : ∃ k, symK s L = k := ⟨_, rfl⟩
  rw [hk] at HK MY LE HS HF ⊢
  clear hk
  obtain ⟨lo, hlo⟩ : ∃ x, Mdl.lsum (L.take k) = x := ⟨_, rfl⟩
  obtain ⟨ow, how⟩ : ∃ x, L.getD k 0 = x := ⟨_, rfl⟩
  rw [hlo, how] at MY HS
  rw [hlo] at LE
  have HLo := Lib.hid hlo
  have HOw := Lib.hid how
  clear hlo how
  unfold Mdl.part at P1
  go_enter Try.func35, Try.ntmps35
  go_wp2_with fail
  refine P1.out.mono ?_
  rintro e1 w1 ⟨rfl, b1⟩
  have s1 := b1.size
  have B1 := Lib.hid b1
  clear b1
  go_wp2_with fail
  have hb2 : Below w.heap.size w (w1.alloc (.cells #[.int .u32 x0, .int .u32 y0, .int .u32 al] 31)) := B1.out.alloc s1 _
  have A2 := Lib.hid (A.out.below hb2)
  have M2 : Hid (Mdl.Is (w1.alloc (.cells #[.int .u32 x0, .int .u32 y0, .int .u32 al] 31)) m h cap L f) := Lib.hid (B.out.only (Only.of_below hb2 : Only (fun _ => False) _ _) (fun x => x) (fun x => x))
  have PB := Lib.hid (Blk.new w1 31 #[.int .u32 x0, .int .u32 y0, .int .u32 al])
  have O2 : Hid (Only (fun i => i = d ∨ (i = m ∨ i = h)) w (w1.alloc (.cells #[.int .u32 x0, .int .u32 y0, .int .u32 al] 31))) := Lib.hid (Only.of_below hb2)
  have l2 : w1.heap.size < (w1.alloc (.cells #[.int .u32 x0, .int .u32 y0, .int .u32 al] 31)).heap.size := by simp
  clear hb2 A B B1
  refine (at_calls A2.out OK.out al al0.out al1.out).mono ?_
  rintro e2 w2 ⟨rfl, nq, rfl⟩
  have A3 := Lib.hid (A2.out.drewN nq)
  have M3 := Lib.hid (M2.out.drewN nq)
  have PB3 := Lib.hid (PB.out.drewN nq)
  have O3 := Lib.hid (O2.out.drewN nq)
  have l3 : w1.heap.size < ((w1.alloc (.cells #[.int .u32 x0, .int .u32 y0, .int .u32 al] 31)).drewN nq).heap.size := l2
  clear A2 M2 PB O2 l2
  generalize (w1.alloc (.cells #[.int .u32 x0, .int .u32 y0, .int .u32 al] 31)).drewN nq = w3 at *
  generalize w1.heap.size = p at *
  go_wp2_with fail
  have FD := Lib.hid (Mdl.Find_some M3.out G.out (atS s al) AB.out.1 (by have := AB.out.2; have := al1.out; omega))
  rw [HF.out] at FD
  refine FD.out.mono ?_
  rintro e4 w4 ⟨rfl, rfl⟩
  go_wp2_with fail
  have P5 := Lib.hid (Mdl.Part_some M3.out G.out k HK.out)
  rw [HLo.out, HOw.out, HA.out] at P5
  refine P5.out.mono ?_
  rintro e5 w5 ⟨rfl, b5⟩
  have A5 := Lib.hid (A3.out.below b5)
  have M5 : Hid (Mdl.Is w5 m h cap L f) := Lib.hid (M3.out.only (Only.of_below b5 : Only (fun _ => False) _ _) (fun x => x) (fun x => x))
  have PB5 := Lib.hid (PB3.out.below b5 l3)
  have O5 : Hid (Only (fun i => i = d ∨ (i = m ∨ i = h)) w w5) := Lib.hid (O3.out.trans (Only.of_below b5))
  clear FD P5 b5 A3 M3 PB3 O3 l3
  unfold Mdl.part
  have f0 := PB5.out.free 0
  have f1 := PB5.out.free 1
  have f2 := PB5.out.free 2
  have q0 := PB5.out.cell (i := 0) rfl
  have q1 := PB5.out.cell (i := 1) rfl
  have q2 := PB5.out.cell (i := 2) rfl
  go_wp2_with fail
  have hp : w.heap.size ≤ p := by omega
  have O6 : Hid (Only (fun i => i = d ∨ (i = m ∨ i = h)) w (((w5.setCell ⟨p, 0, none⟩ (.int .u32 lo)).setCell ⟨p, 1, none⟩ (.int .u32 ow)).setCell ⟨p, 2, none⟩ (.int .u32 al))) :=
    Lib.hid (((O5.out.set (p := ⟨p, 0, none⟩) (.inr hp) _).set (p := ⟨p, 1, none⟩) (.inr hp) _).set (p := ⟨p, 2, none⟩) (.inr hp) _)
  have oP : Only (fun i => i = p) w5 (((w5.setCell ⟨p, 0, none⟩ (.int .u32 lo)).setCell ⟨p, 1, none⟩ (.int .u32 ow)).setCell ⟨p, 2, none⟩ (.int .u32 al)) :=
    At.cell (At.cell (At.cell (At.refl p w5) 0 _) 1 _) 2 _
  have A6 := Lib.hid (A5.out.only oP (by omega) (fun g hg => by have := OL.out g hg; omega))
  have M6 := Lib.hid (M5.out.only oP (by omega) (by omega))
  clear oP A5 M5 PB5 O5 f0 f1 f2 q0 q1 q2 OL
  generalize (((w5.setCell ⟨p, 0, none⟩ (.int .u32 lo)).setCell ⟨p, 1, none⟩ (.int .u32 ow)).setCell ⟨p, 2, none⟩ (.int .u32 al)) = w6 at *
  refine (take_calls A6.out OK.out lo ow al MY.out LE.out hn).mono ?_
  rintro e7 w7 ⟨rfl, a7, o7⟩
  have A7 := Lib.hid a7
  have M7 := Lib.hid (M6.out.only o7 (fun e => n1 e.symm) (fun e => n2 e.symm))
  have O7 : Hid (Only (fun i => i = d ∨ (i = m ∨ i = h)) w w7) := Lib.hid (O6.out.then o7 (fun i hi => .inl (.inl hi)))
  clear a7 o7 A6 M6 O6
  go_wp2_with fail
  refine (Mdl.Learn_any M7.out G.out k HK.out).mono ?_
  rintro e8 w8 ⟨rfl, b8, o8⟩
  have A8 := Lib.hid (A7.out.only o8 (fun hh => by rcases hh with hh | hh; exact n1 hh; exact n2 hh) (fun g hg hh => by
    rcases hh with hh | hh
    · subst hh; exact N3.out hg
    · subst hh; exact N4.out hg))
  have M8 := Lib.hid b8
  have O8 : Hid (Only (fun i => i = d ∨ (i = m ∨ i = h)) w w8) := Lib.hid (O7.out.then o8 (fun i hi => .inl (.inr hi)))
  clear b8 o8
  go_wp2_with fail
  go_ret2
  rw [HS.out]
  exact ⟨rfl, A8.out, M8.out, O8.out⟩
theorem Symbol_none {w : World} {m h cap : Nat} {L : List Int} {f : Bool} (b : Mdl.Is w m h cap L f) (good : Mdl.Good L) :
    Calls Try.prog 35 #[.pointer none, .pointer (some ⟨m, 0, none⟩)] w fun en w' => en = .returned (.tuple #[.int .i64 0, .int .i64 1]) ∧ Below w.heap.size w w' := by
  have P1 := Lib.hid (Mdl.Part_some b good 0 (by have := good.len1; omega))
  clear b good
  generalize Mdl.lsum L = al at *
  generalize Mdl.lsum (L.take 0) = x0 at *
  generalize L.getD 0 0 = y0 at *
  unfold Mdl.part at P1
  go_enter Try.func35, Try.ntmps35
  go_wp2_with fail
  refine P1.out.mono ?_
  rintro e1 w1 ⟨rfl, b1⟩
  have s1 := b1.size
  have B1 := Lib.hid b1
  clear b1
  go_wp2_with fail
  go_ret2
  exact ⟨rfl, B1.out.alloc s1 _⟩
theorem Symbol_nomodel (d : Nat) (w : World) :
    Calls Try.prog 35 #[.pointer (some ⟨d, 0, none⟩), .pointer none] w fun en w' => en = .returned (.tuple #[.int .i64 0, .int .i64 1]) ∧ Below w.heap.size w w' := by
  have P1 := Lib.hid (Mdl.Part_none (.int .i64 0) w)
  unfold Mdl.part at P1
  go_enter Try.func35, Try.ntmps35
  go_wp2_with fail
  refine P1.out.mono ?_
  rintro e1 w1 ⟨rfl, b1⟩
  have s1 := b1.size
  have B1 := Lib.hid b1
  clear b1
  go_wp2_with fail
  go_ret2
  exact ⟨rfl, B1.out.alloc s1 _⟩
theorem Over_none (w : World) : Calls Try.prog 39 #[.pointer none] w fun en w' => en = .returned (.int .i64 0) ∧ w' = w := by
  go_enter Try.func39, Try.ntmps39
  go_wp2
  go_ret
  exact ⟨rfl, rfl⟩
theorem Over_calls {w : World} {d : Nat} {s : DSt} {v : Value} (a : Is w d 120 .u32 s v) (hb : s.bs.length ≤ 1000000000) (hn : s.n ≤ 1000000000000) :
    Calls Try.prog 39 #[.pointer (some ⟨d, 0, none⟩)] w fun en w' => en = .returned (.int .i64 (max ((s.n : Int) - s.bs.length) 0)) ∧ ∃ n, w' = w.drewN n := by
  obtain ⟨ad, cap, rfl, _⟩ := a.sl.form
  have d0 := a.blk.cell (i := 0) rfl
  have d1 := a.blk.cell (i := 1) rfl
  obtain ⟨bs, n, co, sz⟩ := s
  simp only at *
  generalize bs.length = l at *
  clear a
  have w1 : IntKind.i64.wrap ((n : Int) - l) = (n : Int) - l := wrapI64 (by omega) (by omega)
  by_cases hc : (n : Int) - l < 0
  · have hm : max ((n : Int) - l) 0 = 0 := by omega
    rw [hm]
    go_enter Try.func39, Try.ntmps39
    go_wp2
    go_quiet (fail)
    go_wp2
    go_ret
    exact ⟨rfl, nq, rfl⟩
  · have hm : max ((n : Int) - l) 0 = (n : Int) - l := by omega
    rw [hm]
    go_enter Try.func39, Try.ntmps39
    go_wp2
    go_quiet (fail)
    go_wp2
    go_ret
    exact ⟨rfl, nq, rfl⟩
/-- The number and the state behind so many bits; n came before. -/
def bitsD (s : DSt) (n : Int) (w : Nat) : Int × DSt :=
  if w = 0 then (n, s) else if w ≤ 12 then (n * 2 ^ w + atS s (2 ^ w), takeS s (atS s (2 ^ w)) 1 (2 ^ w))
  else ((n * 4096 + atS s 4096) * 2 ^ (w - 12) + atS (takeS s (atS s 4096) 1 4096) (2 ^ (w - 12)), takeS (takeS s (atS s 4096) 1 4096) (atS (takeS s (atS s 4096) 1 4096) (2 ^ (w - 12))) 1 (2 ^ (w - 12)))
theorem bits_step (s : DSt) (n : Int) (j i : Nat) (hi : j = i + 12) (h0 : 0 < i) (h12 : i ≤ 12) : bitsD s n j = bitsD (takeS s (atS s 4096) 1 4096) (n * 4096 + atS s 4096) i := by
  unfold bitsD
  rw [if_neg (by omega), if_neg (by omega), if_neg (by omega), if_pos (by omega), show j - 12 = i from by omega]
theorem bits_last (s : DSt) (n : Int) (j : Nat) (h0 : 0 < j) (h12 : j ≤ 12) : bitsD s n j = (n * 2 ^ j + atS s (2 ^ j), takeS s (atS s (2 ^ j)) 1 (2 ^ j)) := by
  unfold bitsD
  rw [if_neg (by omega), if_pos h12]
theorem bits_nought (s : DSt) (n : Int) : bitsD s n 0 = (n, s) := by unfold bitsD; rw [if_pos rfl]
theorem pow12 {j : Nat} (h : j ≤ 12) : (1 : Int) ≤ 2 ^ j ∧ (2 : Int) ^ j ≤ 4096 := by
  have h3 : (0 : Int) < 2 ^ j := Int.pow_pos (by omega)
  have h4 := Nat.pow_le_pow_right (show 0 < 2 by decide) h
  have h5 : (2 : Int) ^ j ≤ 2 ^ 12 := by exact_mod_cast h4
  have e12 : (2 : Int) ^ 12 = 4096 := by decide
  omega
theorem pow24 {j : Nat} (h : j ≤ 24) : (1 : Int) ≤ 2 ^ j ∧ (2 : Int) ^ j ≤ 16777216 := by
  have h3 : (0 : Int) < 2 ^ j := Int.pow_pos (by omega)
  have h4 := Nat.pow_le_pow_right (show 0 < 2 by decide) h
  have h5 : (2 : Int) ^ j ≤ 2 ^ 24 := by exact_mod_cast h4
  have e24 : (2 : Int) ^ 24 = 16777216 := by decide
  omega
/-- One step: at most twelve bits. -/
theorem bits_more {s : DSt} (ok : s.Ready) {n : Int} {j : Nat} (hj : 0 < j) (h24 : j ≤ 24) : ∃ k i : Nat, 0 < k ∧ k ≤ 12 ∧ j = i + k ∧ k = min j 12 ∧ bitsD s n j = bitsD (takeS s (atS s (2 ^ k)) 1 (2 ^ k)) (n * 2 ^ k + atS s (2 ^ k)) i := by
  by_cases hc : 12 < j
  · exact ⟨12, j - 12, by omega, by omega, by omega, by omega, bits_step s n j (j - 12) (by omega) (by omega) (by omega)⟩
  · refine ⟨j, 0, hj, by omega, by omega, by omega, ?_⟩
    rw [bits_nought, bits_last s n j hj (by omega)]
theorem at_may {s : DSt} (ok : s.Ready) {al : Int} (a0 : 1 ≤ al) (a1 : al ≤ 8192) : Enc.May (atS s al) 1 al := by
  have := at_bd ok a0 a1
  exact ⟨this.1, by omega, by omega, a1⟩
theorem at_ready {s : DSt} (ok : s.Ready) {al : Int} (a0 : 1 ≤ al) (a1 : al ≤ 8192) : (takeS s (atS s al) 1 al).Ready ∧ (takeS s (atS s al) 1 al).bs = s.bs ∧ s.n ≤ (takeS s (atS s al) 1 al).n ∧ (takeS s (atS s al) 1 al).n ≤ s.n + 2 :=
  take_ready ok (at_may ok a0 a1) (at_le ok a0 a1 (Int.le_refl _))
theorem bits_ready {s : DSt} (ok : s.Ready) (n : Int) (w : Nat) (hw : w ≤ 24) : (bitsD s n w).2.Ready ∧ (bitsD s n w).2.bs = s.bs ∧ s.n ≤ (bitsD s n w).2.n ∧ (bitsD s n w).2.n ≤ s.n + 4 := by
  unfold bitsD
  split
  · exact ⟨ok, rfl, Nat.le_refl _, Nat.le_add_right _ _⟩
  · split
    · rename_i h0 h1
      have hp := pow12 h1
      obtain ⟨r1, r2, r3, r4⟩ := at_ready ok hp.1 (show (2 : Int) ^ w ≤ 8192 by omega)
      exact ⟨r1, r2, r3, Nat.le_trans r4 (by omega)⟩
    · rename_i h0 h1
      have hp := pow12 (show w - 12 ≤ 12 by omega)
      obtain ⟨r1, r2, r3, r4⟩ := at_ready ok (al := 4096) (by decide) (by decide)
      obtain ⟨q1, q2, q3, q4⟩ := at_ready r1 hp.1 (show (2 : Int) ^ (w - 12) ≤ 8192 by omega)
      exact ⟨q1, by rw [← r2, ← q2], Nat.le_trans r3 q3, Nat.le_trans q4 (by omega)⟩
theorem bits_bd {s : DSt} (ok : s.Ready) (w : Nat) (hw : w ≤ 24) : 0 ≤ (bitsD s 0 w).1 ∧ (bitsD s 0 w).1 < 16777216 := by
  unfold bitsD
  split
  · exact ⟨Int.le_refl _, by show (0 : Int) < 16777216; decide⟩
  · split
    · rename_i h0 h1
      have hp := pow12 h1
      have hb := at_bd ok hp.1 (show (2 : Int) ^ w ≤ 8192 by omega)
      constructor <;> (simp only; omega)
    · rename_i h0 h1
      have hp := pow12 (show w - 12 ≤ 12 by omega)
      have hb := at_bd ok (al := 4096) (by decide) (by decide)
      have hq := at_bd (at_ready ok (al := 4096) (by decide) (by decide)).1 hp.1 (show (2 : Int) ^ (w - 12) ≤ 8192 by omega)
      generalize atS (takeS s (atS s 4096) 1 4096) (2 ^ (w - 12)) = y at *
      generalize atS s 4096 = x at *
      generalize (2 : Int) ^ (w - 12) = p at *
      have h1 : (0 * 4096 + x) * p ≤ 4095 * p := Int.mul_le_mul_of_nonneg_right (by omega) (by omega)
      have h2 : 0 ≤ (0 * 4096 + x) * p := Int.mul_nonneg (by omega) (by omega)
      constructor <;> (simp only; omega)
attribute [local irreducible] bitsD
set_option maxHeartbeats 2000000 in
set_option maxRecDepth 100000 in
theorem Bits_yes {w : World} {d : Nat} {s : DSt} {v : Value} (a : Is w d 120 .u32 s v) (ok : s.Ready) (hn : s.n ≤ 800000000000) (wide : Nat) (h2 : wide ≤ 24) :
    Calls Try.prog 37 #[.pointer (some ⟨d, 0, none⟩), .int .i64 wide] w fun en w' => en = .returned (.tuple #[.int .u32 (bitsD s 0 wide).1, .int .i64 0]) ∧ Is w' d 120 .u32 (bitsD s 0 wide).2 v ∧ At d w w' := by
  have y1 : decide ((wide : Int) < 0) = false := decide_eq_false (by omega)
  have y2 : decide ((24 : Int) < (wide : Int)) = false := decide_eq_false (by omega)
  have A := Lib.hid a
  have R0 := Lib.hid ok
  clear a ok
  go_enter Try.func37, Try.ntmps37
  go_wp2
  clear y1 y2
  go_loopw [1, 6] (fun u nv wr => ∃ (j : Nat) (t : DSt) (n : Int), j ≤ 24 ∧ u = .int .i64 (j : Int) ∧ nv = .int .u32 n ∧ 0 ≤ n ∧ Hid ((n + 1) * 2 ^ j ≤ 16777216) ∧ Hid (bitsD t n j = bitsD s 0 wide) ∧ Hid t.Ready ∧ t.n + 4 * j ≤ 900000000000 ∧ Hid (Is wr d 120 .u32 t v) ∧ Hid (At d w wr)) (fun u _ _ => (intOf u).toNat)
  case atStart => exact ⟨wide, s, 0, h2, rfl, rfl, Int.le_refl _, Lib.hid (by have := pow24 h2; omega), rfl, R0, by omega, A, At.refl d w⟩
  case round =>
    clear A R0
    obtain ⟨j, t, n, hj, rfl, rfl, n0, HL, HN, R0, hkk, A, O⟩ := hrel
    have hd := A.out.blk.lt
    by_cases hz : 0 < j
    · obtain ⟨k, i, hk0, hk12, hji, hkm, hst⟩ := bits_more (n := n) R0.out hz hj
      have hp := pow12 hk12
      have HP := Lib.hid hp
      have hp8 : (2 : Int) ^ k ≤ 8192 := by omega
      have AR := Lib.hid (at_ready R0.out hp.1 hp8)
      have AM := Lib.hid (at_may R0.out hp.1 hp8)
      have AL := Lib.hid (at_le R0.out hp.1 hp8 (Int.le_refl _))
      have HSt := Lib.hid hst
      have ab := at_bd R0.out hp.1 hp8
      have hL : (n * 2 ^ k + atS t (2 ^ k) + 1) * 2 ^ i ≤ 16777216 ∧ n * 2 ^ k + atS t (2 ^ k) + 1 ≤ 16777216 := by
        have h1 := HL.out
        rw [hji, Nat.add_comm, Int.pow_add, ← Int.mul_assoc] at h1
        have hpi : (0 : Int) < 2 ^ i := Int.pow_pos (by omega)
        have h2 : (n + 1) * 2 ^ k = n * 2 ^ k + 2 ^ k := by rw [Int.add_mul, Int.one_mul]
        rw [h2] at h1
        have h3 : (n * 2 ^ k + atS t (2 ^ k) + 1) * 2 ^ i ≤ (n * 2 ^ k + 2 ^ k) * 2 ^ i := Int.mul_le_mul_of_nonneg_right (by omega) (by omega)
        have h4 : (n * 2 ^ k + atS t (2 ^ k) + 1) * 1 ≤ (n * 2 ^ k + atS t (2 ^ k) + 1) * 2 ^ i := Int.mul_le_mul_of_nonneg_left (by omega) (by have := Int.mul_nonneg n0 (show (0 : Int) ≤ 2 ^ k by omega); omega)
        omega
      have n1 : 0 ≤ n * 2 ^ k := Int.mul_nonneg n0 (by omega)
      have n2 : n * 2 ^ k < 16777216 := by omega
      have w2 : IntKind.u32.wrap (n * 2 ^ k) = n * 2 ^ k := Enc.wraps_u32 _ n1 (by omega)
      have w3 : bits .or .u32 (n * 2 ^ k) (atS t (2 ^ k)) = n * 2 ^ k + atS t (2 ^ k) := bits_join .u32 32 (by decide) Enc.wraps_u32 k _ _ n1 (Int.mul_emod_left _ _) (by omega) ab.1 (by omega) (by omega)
      have HLL := Lib.hid hL
      have HI : Hid (i < j ∧ i ≤ 24 ∧ t.n + 2 + 4 * i ≤ 900000000000) := Lib.hid (by omega)
      clear hst hL HL
      by_cases hc : 12 < j
      · obtain rfl : k = 12 := by omega
        have hji2 : (j : Int) - 12 = (i : Int) := by omega
        have z1 : (2 : Int) ^ 12 = 4096 := by decide
        rw [z1] at w2 w3 n1 n2 ab hp HP hp8 AR AM AL HSt HLL
        clear z1 hkm hji
        obtain ⟨x, hx⟩ : ∃ x, atS t 4096 = x := ⟨_, rfl⟩
        rw [hx] at w3 ab AR AM AL HSt HLL
        have HX := Lib.hid hx
        clear hx
        have CA := Lib.hid (at_calls A.out R0.out 4096 HP.out.1 (by have := HP.out.2; omega))
        rw [HX.out] at CA
        go_wp2_with fail
        refine CA.out.mono ?_
        rintro e1 w1 ⟨rfl, nq, rfl⟩
        have A1 := Lib.hid (A.out.drewN nq)
        have O1 := Lib.hid (O.out.drewN nq)
        have CT := Lib.hid (take_calls A1.out R0.out x 1 4096 AM.out AL.out (by omega))
        unfold Mdl.part at CT
        clear A O CA
        go_wp2_with fail
        refine CT.out.mono ?_
        rintro e2 w2 ⟨rfl, a2, o2⟩
        have A2 := Lib.hid a2
        have O2 := Lib.hid (O1.out.trans o2)
        clear a2 o2 A1 O1 CT
        go_wp2_with fail
        go_roundw
        case rel => exact ⟨i, takeS t x 1 4096, n * 4096 + x, HI.out.2.1, rfl, rfl, by omega, HLL.out.1, HSt.out.symm.trans HN.out, AR.out.1, by have := AR.out.2.2.2; have := HI.out.2.2; omega, A2, O2⟩
        case measure => simp [intOf]; exact HI.out.1
      · obtain rfl : k = j := by omega
        obtain rfl : i = 0 := by omega
        have m1 : min (k : Int) 12 = (k : Int) := by omega
        have m2 : mn (k : Int) 12 = (k : Int) := by unfold mn; omega
        have m3 : (if (12 : Int) < (k : Int) then (12 : Int) else (k : Int)) = (k : Int) := by omega
        have nm : min k 32 = k := by omega
        have w1 : IntKind.u32.wrap (2 ^ k) = 2 ^ k := Enc.wraps_u32 _ (by omega) (by omega)
        have k4 : ¬ ((k : Int) < 0) := by omega
        have k5 : decide ((k : Int) < 0) = false := decide_eq_false k4
        clear hkm hji
        obtain ⟨x, hx⟩ : ∃ x, atS t (2 ^ k) = x := ⟨_, rfl⟩
        rw [hx] at w3 ab AR AM AL HSt HLL
        have HX := Lib.hid hx
        clear hx
        have CA := Lib.hid (at_calls A.out R0.out (2 ^ k) HP.out.1 (by have := HP.out.2; omega))
        rw [HX.out] at CA
        go_wp2_with fail
        refine CA.out.mono ?_
        rintro e1 w1 ⟨rfl, nq, rfl⟩
        have A1 := Lib.hid (A.out.drewN nq)
        have O1 := Lib.hid (O.out.drewN nq)
        have CT := Lib.hid (take_calls A1.out R0.out x 1 (2 ^ k) AM.out AL.out (by omega))
        unfold Mdl.part at CT
        clear A O CA
        go_wp2_with fail
        refine CT.out.mono ?_
        rintro e2 w2 ⟨rfl, a2, o2⟩
        have A2 := Lib.hid a2
        have O2 := Lib.hid (O1.out.trans o2)
        clear a2 o2 A1 O1 CT
        go_wp2_with fail
        go_roundw
        case rel => exact ⟨0, takeS t x 1 (2 ^ k), n * (2 ^ k) + x, HI.out.2.1, rfl, rfl, by omega, HLL.out.1, HSt.out.symm.trans HN.out, AR.out.1, by have := AR.out.2.2.2; have := HI.out.2.2; omega, A2, O2⟩
        case measure => simp [intOf]; exact HI.out.1
    · obtain rfl : j = 0 := by omega
      rw [bits_nought] at HN
      have HF := Lib.hid HN.out.symm
      clear HN
      go_wp2
      go_ret2
      rw [HF.out]
      exact ⟨rfl, A.out, O.out⟩
theorem Bits_none (wide : Value) (w : World) : Calls Try.prog 37 #[.pointer none, wide] w fun en w' => en = .returned (.tuple #[.int .u32 0, .int .i64 1]) ∧ w' = w := by
  go_enter Try.func37, Try.ntmps37
  go_wp2
  go_ret2
  exact ⟨rfl, rfl⟩
theorem Bits_bad (d : Nat) (wide : Int) (hb : wide < 0 ∨ 24 < wide) (w : World) :
    Calls Try.prog 37 #[.pointer (some ⟨d, 0, none⟩), .int .i64 wide] w fun en w' => en = .returned (.tuple #[.int .u32 0, .int .i64 1]) ∧ w' = w := by
  by_cases h1 : wide < 0
  · clear hb
    go_enter Try.func37, Try.ntmps37
    go_wp2
    go_ret2
    exact ⟨rfl, rfl⟩
  have h2 : 24 < wide := by omega
  clear hb
  go_enter Try.func37, Try.ntmps37
  go_wp2
  go_ret2
  exact ⟨rfl, rfl⟩
end Go.Proofs.Ytlbjoflmfboeeaa.Deco
