/- Texts of this session, merged. -/
import Derived.Test.YtlbjoflmfboeeaaMep4
import Derived.Test.YtlbjoflmfboeeaaRows
/-
  The walks of energy.Get and of the document's; no condition but those told.
-/
set_option linter.unusedVariables false
set_option linter.unusedSimpArgs false
namespace Go.Proofs.Ytlbjoflmfboeeaa.Erg
open Go.RowKit Go.Proofs.Ytlbjoflmfboeeaa Go.Proofs.YtlbjoflmfboeeaaW.PrintWords Go.Proofs.Ytlbjoflmfboeeaa.Deco

/-- The decoder's state behind k ceilings, and these. -/
def dget (s : DSt) (ah : List Int) : Nat → DSt × List Int
  | 0 => (s, [])
  | k + 1 => if ah.length = 0 then ((bitsD (dget s ah k).1 0 5).2, (dget s ah k).2 ++ [(bitsD (dget s ah k).1 0 5).1])
    else (symS (dget s ah k).1 AP, (dget s ah k).2 ++ [(ah.getD k 0 + symK (dget s ah k).1 AP) % 32])
theorem dget_len (s : DSt) (ah : List Int) (k : Nat) : (dget s ah k).2.length = k := by
  induction k with
  | zero => rfl
  | succ k ih => unfold dget; split <;> simp [ih]
theorem dget_ready {s : DSt} (ok : s.Ready) (ah : List Int) (k : Nat) : (dget s ah k).1.Ready ∧ (dget s ah k).1.bs = s.bs ∧ s.n ≤ (dget s ah k).1.n ∧ (dget s ah k).1.n ≤ s.n + 4 * k := by
  induction k with
  | zero => exact ⟨ok, rfl, Nat.le_refl _, Nat.le_refl _⟩
  | succ k ih =>
    unfold dget
    split
    · have := bits_ready ih.1 0 5 (by decide)
      exact ⟨this.1, this.2.1.trans ih.2.1, Nat.le_trans ih.2.2.1 this.2.2.1, Nat.le_trans this.2.2.2 (by have := ih.2.2.2; omega)⟩
    · have := sym_ready ih.1 ap_good
      exact ⟨this.1, this.2.1.trans ih.2.1, Nat.le_trans ih.2.2.1 this.2.2.1, Nat.le_trans this.2.2.2 (by have := ih.2.2.2; omega)⟩
theorem pad_set (xs : List Int) (m : Nat) (v : Int) : (xs ++ List.replicate (m + 1) 0).set xs.length v = (xs ++ [v]) ++ List.replicate m 0 := by
  rw [List.set_append_right _ _ (Nat.le_refl _), Nat.sub_self, List.replicate_succ, List.set_cons_zero, List.append_assoc]; rfl
def GPost (P : DSt × List Int) (d : Nat) (v : Value) (w : World) (en : Ending) (w' : World) : Prop :=
  ((rightB P.2 = true ∧ ∃ g cap, en = .returned (.tuple #[.slice (some ⟨g, 0, none⟩) 21 cap, .int .i64 0]) ∧ w.heap.size ≤ g ∧ RowI w' 3 .i64 g cap P.2) ∨ (rightB P.2 = false ∧ en = .returned (.tuple #[.slice none 0 0, .int .i64 3]))) ∧
    Is w' d 120 .u32 P.1 v ∧ At d w w'
attribute [local irreducible] bitsD symS symK AP takeS atS
theorem Get_nil (ua : Value) (w : World) : Calls Try.prog 44 #[.pointer none, ua] w fun en w' => en = .returned (.tuple #[.slice none 0 0, .int .i64 1]) ∧ w' = w := by
  go_enter Try.func44, Try.ntmps44
  go_wp2
  go_ret2
  exact ⟨rfl, rfl⟩
set_option maxRecDepth 100000 in
theorem Get_bad {w : World} (d : Nat) {ua : Value} {ah : List Int} (srca : Src w .i64 ua ah) (hal : ah.length ≤ 1000000000) (h : 0 < ah.length) (h3 : rightB ah = false) :
    Calls Try.prog 44 #[.pointer (some ⟨d, 0, none⟩), ua] w fun en w' => en = .returned (.tuple #[.slice none 0 0, .int .i64 1]) ∧ w' = w := by
  have C2 := Lib.hid (Right_calls srca hal)
  rw [h3] at C2
  clear h3
  obtain ⟨A, c, rfl, _⟩ := srca
  have ih : (0 : Int) < (ah.length : Int) := by omega
  go_enter Try.func44, Try.ntmps44
  go_wp2_with fail
  refine C2.out.mono ?_
  rintro e1 w1 ⟨rfl, he⟩
  subst w1
  go_wp2_with fail
  go_ret2
  exact ⟨rfl, rfl⟩
set_option maxHeartbeats 2000000 in
set_option maxRecDepth 100000 in
theorem Get_yes {w : World} {d : Nat} {s : DSt} {v : Value} (a : Is w d 120 .u32 s v) (ok : s.Ready) (hn : s.n ≤ 700000000000) {ua : Value} {ah : List Int} (srca : Src w .i64 ua ah) (ra : ah.length = 0 ∨ Rt ah)
    (ap2 : 0 < ah.length → ∀ g, ua.ownBlock = some g → g ≠ d ∧ g < w.heap.size) :
    Calls Try.prog 44 #[.pointer (some ⟨d, 0, none⟩), ua] w (GPost (dget s ah 21) d v w) := by
  have hm : ∀ w : World, (Instr.makeSlice 54 (.int .i64 21) (.int .i64 21)).run Try.prog w = .ok (.slice (some ⟨w.heap.size, 0, none⟩) 21 21) (w.alloc (.cells (madeCells #[.int .i64 0] 21) 3)) := fun w => run_make_row' 54 3 (.int .i64 0) 8 Try.underlying54 (by kernel_rfl) rfl .i64 .i64 21 (by omega) (by omega) w
  have A := Lib.hid a
  have OK := Lib.hid ok
  have S2 := Lib.hid srca
  have AP2 := Lib.hid ap2
  have hle := a.blk.lt
  have vlt : Hid (∀ g, v.ownBlock = some g → g < w.heap.size) := Lib.hid (fun g hg => a.sl.lt hg)
  obtain ⟨aA, ac, rfl, _⟩ := srca
  clear a ok ap2
  by_cases h0 : ah.length = 0
  · have HN : Hid (ah.length = 0) := Lib.hid h0
    rw [h0] at S2 AP2 ⊢
    clear h0 ra
    go_enter Try.func44, Try.ntmps44
    go_wp2_with fail
    refine (apart_calls _).mono ?_
    rintro e2 w2 ⟨m, h, cap, rfl, hm1, hh, _, b2⟩
    have A2 := Lib.hid ((A.out.below b2).below ((Below.refl _ _).alloc (Nat.le_refl _) (.cells (madeCells #[.int .i64 0] 21) 3) : Below _ _ _))
    have s2 := b2.size
    have O2 : Hid (At d w (w2.alloc (.cells (madeCells #[.int .i64 0] 21) 3))) := Lib.hid ((Only.of_below b2 : At d w w2).trans (Only.of_below ((Below.refl _ _).alloc (Nat.le_refl _) _)))
    have R2 := Lib.hid (RowI.new w2 3 .i64 21 0 (by decide))
    clear b2
    go_wp2_with fail
    generalize w2.heap.size = G at *
    go_loopw [29] (fun i wr => ∃ (k : Nat), k ≤ 21 ∧ i = .int .i64 (k : Int) ∧ Hid (Is wr d 120 .u32 (dget s ah k).1 v) ∧ Hid (RowI wr 3 .i64 G 21 ((dget s ah k).2 ++ List.replicate (21 - k) 0)) ∧ Hid (At d w wr)) (fun i _ => 21 - (intOf i).toNat)
    case atStart => exact ⟨0, by omega, rfl, A2, R2, O2⟩
    case round =>
      clear A2 R2 O2
      obtain ⟨k, hk, rfl, A2, R2, O2⟩ := hrel
      have hl := dget_len s ah k
      have HL := Lib.hid hl
      by_cases hlt : k < 21
      · have ER := Lib.hid (dget_ready OK.out ah k)
        have HS : Hid (dget s ah (k + 1) = ((bitsD (dget s ah k).1 0 5).2, (dget s ah k).2 ++ [(bitsD (dget s ah k).1 0 5).1])) := Lib.hid (by show (if ah.length = 0 then _ else _) = _; rw [if_pos HN.out])
        have BB := bits_bd ER.out.1 5 (by decide)
        have dk := R2.out.cell (i := k) (by rw [List.length_append, hl, List.length_replicate]; omega)
        have fk := R2.out.free k
        have PS : Hid (((dget s ah k).2 ++ List.replicate (21 - k) 0).set k (bitsD (dget s ah k).1 0 5).1 = (dget s ah (k + 1)).2 ++ List.replicate (21 - (k + 1)) 0) := Lib.hid (by
          have := pad_set (dget s ah k).2 (21 - (k + 1)) (bitsD (dget s ah k).1 0 5).1
          rw [hl, show 21 - (k + 1) + 1 = 21 - k from by omega] at this
          rw [HS.out]; exact this)
        have GD : d ≠ G := by omega
        have GV : ∀ g, v.ownBlock = some g → g ≠ G := fun g hg => by have := vlt.out g hg; omega
        have BT := Lib.hid (Bits_yes A2.out ER.out.1 (by have := ER.out.2.2.2; omega) 5 (by decide))
        have HN1 : Hid ((dget s ah (k + 1)).1 = (bitsD (dget s ah k).1 0 5).2) := Lib.hid (by rw [HS.out])
        generalize ((dget s ah k).2 ++ List.replicate (21 - k) 0)[k]'(by rw [List.length_append, hl, List.length_replicate]; omega) = y0 at *
        obtain ⟨X, hX⟩ : ∃ X, (bitsD (dget s ah k).1 0 5).1 = X := ⟨_, rfl⟩
        rw [hX] at BB PS BT
        clear hX HS
        have w1 : IntKind.i64.wrap X = X := wrapI64 (by omega) (by omega)
        clear hl
        go_wp2_with fail
        refine BT.out.mono ?_
        rintro e3 w3 ⟨rfl, a3, o3⟩
        have A3 := Lib.hid a3
        have R3 := Lib.hid (R2.out.of_same (o3.block G R2.out.lt (by omega)))
        have O3 := Lib.hid (O2.out.trans o3)
        have dk : w3.cell? ⟨G, k, none⟩ = some (.int .i64 y0) := by rw [← dk]; exact World.cell?_of_block (o3.block G R2.out.lt (by omega))
        have fk := R3.out.free k
        clear a3 o3 BT A2 R2 O2
        go_wp2_with fail
        go_roundw
        case rel => exact ⟨k + 1, by omega, by push_cast; rfl, Lib.hid (by rw [HN1.out]; exact A3.out.only (At.cell (At.refl G w3) k _) (fun hx => GD hx) (fun g hg hx => GV g hg hx)), Lib.hid (by rw [← PS.out]; exact R3.out.set k _), Lib.hid (Only.set O3.out (p := ⟨G, k, none⟩) (.inr (by omega)) _)⟩
        case measure => simp [intOf]; omega
      · obtain rfl : k = 21 := by omega
        rw [Nat.sub_self, show List.replicate 0 (0 : Int) = [] from rfl, List.append_nil] at R2
        have RC := Lib.hid (Right_calls (Src.of_sl (Sl.row R2.out)) (by rw [hl]; decide))
        rw [hl] at RC
        clear hl
        go_wp2_with fail
        refine RC.out.mono ?_
        rintro e3 w3 ⟨rfl, he⟩
        subst w3
        have HG : w.heap.size ≤ G := by omega
        cases hr : rightB (dget s ah 21).2 with
        | true =>
          go_wp2_with fail
          go_ret2
          exact ⟨.inl ⟨hr, G, 21, rfl, HG, R2.out⟩, A2.out, O2.out⟩
        | false =>
          go_wp2_with fail
          go_ret2
          exact ⟨.inr ⟨hr, rfl⟩, A2.out, O2.out⟩
  · have RA : Hid (Rt ah) := Lib.hid (by rcases ra with h | h; exact absurd h h0; exact h)
    have C2 := Lib.hid (Right_calls S2.out (by rw [RA.out.len]; decide))
    rw [rt_right RA.out] at C2
    have AP3 := Lib.hid (AP2.out (by omega))
    rw [RA.out.len] at S2 C2 AP3 ⊢
    clear h0 ra AP2
    go_enter Try.func44, Try.ntmps44
    go_wp2_with fail
    refine C2.out.mono ?_
    rintro e1 w1 ⟨rfl, he⟩
    subst w1
    go_wp2_with fail
    refine (apart_calls _).mono ?_
    rintro e2 w2 ⟨m, h, cap, rfl, hm1, hh, mi, b2⟩
    have bA : Below w2.heap.size w2 (w2.alloc (.cells (madeCells #[.int .i64 0] 21) 3)) := (Below.refl _ _).alloc (Nat.le_refl _) _
    have A2 := Lib.hid ((A.out.below b2).below bA)
    have M2 : Hid (Mdl.Is (w2.alloc (.cells (madeCells #[.int .i64 0] 21) 3)) m h cap AP true) := Lib.hid (mi.only (Only.of_below bA : Only (fun _ => False) _ _) (fun x => x) (fun x => x))
    have s2 := b2.size
    have lm := mi.blk.lt
    have lh := mi.row.lt
    have O2 : Hid (Only (fun i => i = d ∨ (i = m ∨ i = h)) w (w2.alloc (.cells (madeCells #[.int .i64 0] 21) 3))) := Lib.hid ((Only.of_below b2 : Only (fun i => i = d ∨ (i = m ∨ i = h)) w w2).trans (Only.of_below bA))
    have R2 := Lib.hid (RowI.new w2 3 .i64 21 0 (by decide))
    clear b2 mi bA
    go_wp2_with fail
    generalize w2.heap.size = G at *
    have nv : ∀ g, v.ownBlock = some g → g ≠ m ∧ g ≠ h ∧ g ≠ G := fun g hg => by have := vlt.out g hg; omega
    have NV := Lib.hid nv
    clear nv
    go_loopw [29] (fun i wr => ∃ (k : Nat), k ≤ 21 ∧ i = .int .i64 (k : Int) ∧ Hid (Is wr d 120 .u32 (dget s ah k).1 v) ∧ Hid (Mdl.Is wr m h cap AP true) ∧ Hid (RowI wr 3 .i64 G 21 ((dget s ah k).2 ++ List.replicate (21 - k) 0)) ∧ Hid (Only (fun i => i = d ∨ (i = m ∨ i = h)) w wr)) (fun i _ => 21 - (intOf i).toNat)
    case atStart => exact ⟨0, by omega, rfl, A2, M2, R2, O2⟩
    case round =>
      clear A2 R2 O2 M2
      obtain ⟨k, hk, rfl, A2, M2, R2, O2⟩ := hrel
      have hl := dget_len s ah k
      by_cases hlt : k < 21
      · obtain ⟨ad2, rfl, dk2⟩ := (S2.out.same (w' := wr) (fun g hg _ => O2.out.block g (AP3.out g hg).2 (fun hx => by
          rcases hx with hx | hx
          · exact (AP3.out g hg).1 hx
          · have := (AP3.out g hg).2; omega))).cell (j := k) (by rw [RA.out.len]; exact hlt)
        have bd2 := RA.out.bd k (by rw [RA.out.len]; exact hlt)
        have HX2 : Hid (ah.getD k 0 = ah[k]'(by rw [RA.out.len]; exact hlt)) := Lib.hid (Dig.getD_get ah k _)
        have ER := Lib.hid (dget_ready OK.out ah k)
        have HS : Hid (dget s ah (k + 1) = (symS (dget s ah k).1 AP, (dget s ah k).2 ++ [(ah.getD k 0 + symK (dget s ah k).1 AP) % 32])) := Lib.hid (by show (if ah.length = 0 then _ else _) = _; rw [if_neg (by rw [RA.out.len]; decide)])
        rw [HX2.out] at HS
        have SK := sym_lt (s := (dget s ah k).1) ap_good
        have hap : AP.length = 32 := by unfold AP; rfl
        rw [hap] at SK
        have dk := R2.out.cell (i := k) (by rw [List.length_append, hl, List.length_replicate]; omega)
        generalize ah[k]'(by rw [RA.out.len]; exact hlt) = x at *
        have PS : Hid (((dget s ah k).2 ++ List.replicate (21 - k) 0).set k ((x + symK (dget s ah k).1 AP) % 32) = (dget s ah (k + 1)).2 ++ List.replicate (21 - (k + 1)) 0) := Lib.hid (by
          have := pad_set (dget s ah k).2 (21 - (k + 1)) ((x + symK (dget s ah k).1 AP) % 32)
          rw [hl, show 21 - (k + 1) + 1 = 21 - k from by omega] at this
          rw [HS.out]; exact this)
        have BT := Lib.hid (Symbol_yes A2.out ER.out.1 (by have := ER.out.2.2.2; omega) M2.out ap_good (by omega) (by omega) (fun hx => (NV.out _ hx).1 rfl) (fun hx => (NV.out _ hx).2.1 rfl))
        have HN1 : Hid ((dget s ah (k + 1)).1 = symS (dget s ah k).1 AP) := Lib.hid (by rw [HS.out])
        generalize ((dget s ah k).2 ++ List.replicate (21 - k) 0)[k]'(by rw [List.length_append, hl, List.length_replicate]; omega) = y0 at *
        obtain ⟨q, hq⟩ : ∃ q, symK (dget s ah k).1 AP = q := ⟨_, rfl⟩
        rw [hq] at SK PS BT
        clear hq HS hl hap
        obtain ⟨z, hz⟩ : ∃ z, (x + (q : Int)) % 32 = z := ⟨_, rfl⟩
        have e1 : Int.tmod (x + (q : Int)) 32 = z := by rw [Int.tmod_eq_emod_of_nonneg (by omega)]; exact hz
        have w1 : IntKind.i64.wrap z = z := wrapI64 (by omega) (by omega)
        rw [hz] at PS
        go_wp2_with fail
        refine BT.out.mono ?_
        rintro e3 w3 ⟨rfl, a3, m3, o3⟩
        have hG : G ≠ d ∧ G ≠ m ∧ G ≠ h := by omega
        have oG := o3.block G R2.out.lt (by omega)
        have A3 := Lib.hid a3
        have M3 : Hid (Mdl.Is w3 m h cap AP true) := Lib.hid (by rw [next_fixed] at m3; exact m3)
        have R3 := Lib.hid (R2.out.of_same oG)
        have O3 := Lib.hid (O2.out.trans o3)
        have dk : w3.cell? ⟨G, k, none⟩ = some (.int .i64 y0) := by rw [← dk]; exact World.cell?_of_block oG
        have fk := R3.out.free k
        obtain ⟨ad3, hh3, dk3⟩ := (S2.out.same (w' := w3) (fun g hg _ => O3.out.block g (AP3.out g hg).2 (fun hx => by
          rcases hx with hx | hx
          · exact (AP3.out g hg).1 hx
          · have := (AP3.out g hg).2; omega))).cell (j := k) (by rw [RA.out.len]; exact hlt)
        cases hh3
        have hx3 : ah[k]'(by rw [RA.out.len]; exact hlt) = x := HX2.out ▸ (Dig.getD_get ah k (by rw [RA.out.len]; exact hlt)).symm
        rw [hx3] at dk3
        clear a3 m3 o3 BT A2 R2 O2 oG M2 hx3
        go_wp2_with fail
        go_roundw
        case rel => exact ⟨k + 1, by omega, by push_cast; rfl, Lib.hid (by rw [HN1.out]; exact A3.out.only (At.cell (At.refl G w3) k _) (fun hx => hG.1 hx.symm) (fun g hg hx => (NV.out g hg).2.2 hx)), Lib.hid (M3.out.only (At.cell (At.refl G w3) k _) (fun hx => hG.2.1 hx.symm) (fun hx => hG.2.2 hx.symm)), Lib.hid (by rw [← PS.out]; exact R3.out.set k _), Lib.hid (Only.set O3.out (p := ⟨G, k, none⟩) (.inr (by omega)) _)⟩
        case measure => simp [intOf]; omega
      · obtain rfl : k = 21 := by omega
        rw [Nat.sub_self, show List.replicate 0 (0 : Int) = [] from rfl, List.append_nil] at R2
        have RC := Lib.hid (Right_calls (Src.of_sl (Sl.row R2.out)) (by rw [hl]; decide))
        rw [hl] at RC
        clear hl
        go_wp2_with fail
        refine RC.out.mono ?_
        rintro e3 w3 ⟨rfl, he⟩
        subst w3
        have HG : w.heap.size ≤ G := by omega
        have OO : At d w wr := ⟨O2.out.os, O2.out.tape, O2.out.output, O2.out.size, fun i hi hn => O2.out.block i hi (fun hx => by
          rcases hx with hx | hx
          · exact hn hx
          · omega)⟩
        have OO := Lib.hid OO
        cases hr : rightB (dget s ah 21).2 with
        | true =>
          go_wp2_with fail
          go_ret2
          exact ⟨.inl ⟨hr, G, 21, rfl, HG, R2.out⟩, A2.out, OO.out⟩
        | false =>
          go_wp2_with fail
          go_ret2
          exact ⟨.inr ⟨hr, rfl⟩, A2.out, OO.out⟩
end Go.Proofs.Ytlbjoflmfboeeaa.Erg

/-
  The walks of slices.Equal at equal lists, and of law 10's ceilings; no condition but those told.
-/
set_option linter.unusedVariables false
set_option linter.unusedSimpArgs false
namespace Go.Proofs.Ytlbjoflmfboeeaa.Erg
open Go.RowKit Go.Proofs.Ytlbjoflmfboeeaa Go.Proofs.YtlbjoflmfboeeaaW.PrintWords

set_option maxRecDepth 100000 in
theorem Equal_same {w : World} {u u' : Value} {l : List Int} (s1 : Src w .i64 u l) (s2 : Src w .i64 u' l) (hl : l.length ≤ 1000000000) :
    Calls Try.prog 45 #[u, u'] w fun e w' => e = .returned (.bool true) ∧ ∃ n, w' = w.drewN n := by
  have S1 := Lib.hid s1
  have S2 := Lib.hid s2
  obtain ⟨A, c, rfl, _⟩ := s1
  obtain ⟨A', c', rfl, _⟩ := s2
  obtain ⟨n, hn⟩ : ∃ n, l.length = n := ⟨_, rfl⟩
  rw [hn] at S1 S2 hl ⊢
  have HN := Lib.hid hn
  clear hn
  go_enter Try.func45, Try.ntmps45
  go_wp2
  go_loopw [13] (fun i wr => ∃ k : Nat, k ≤ n ∧ i = .int .i64 (k : Int) ∧ ∃ q, wr = w.drewN q) (fun i _ => n - (intOf i).toNat)
  case atStart => exact ⟨0, by omega, rfl, 0, rfl⟩
  case round =>
    obtain ⟨k, hk, rfl, q, rfl⟩ := hrel
    by_cases hlt : k < n
    · obtain ⟨ad, rfl, d1⟩ := S1.out.cell (j := k) (by rw [HN.out]; exact hlt)
      obtain ⟨ad', rfl, d2⟩ := S2.out.cell (j := k) (by rw [HN.out]; exact hlt)
      have d1 : (w.drewN q).cell? (ad.add k) = _ := d1
      have d2 : (w.drewN q).cell? (ad'.add k) = _ := d2
      have ik : (k : Int) < (n : Int) := by omega
      generalize l[k]'(by rw [HN.out]; exact hlt) = x at *
      go_wp2
      go_quiet (fail)
      go_wp2
      go_roundw
      case rel => exact ⟨k + 1, by omega, by push_cast; rfl, q + nq, rfl⟩
      case measure => simp [intOf]; omega
    · obtain rfl : k = n := by omega
      go_wp2
      go_ret
      exact ⟨rfl, q, rfl⟩
/-- Right ceilings of any bytes. -/
def cf (bs : List Int) (i : Nat) : Int := if bs.length = 0 then 0 else bs.getD (i % bs.length) 0 % 27
def cl (bs : List Int) : List Int := fillTo (cf bs) 21 21
theorem cl_rt (bs : List Int) : Rt (cl bs) := by
  refine ⟨fillTo_len _ _ _, fun k hk => ?_⟩
  have h21 : k < 21 := by unfold cl at hk; rwa [fillTo_len] at hk
  have e : (cl bs)[k] = cf bs k := fillTo_all' (cf bs) 21 k h21
  show 0 ≤ (cl bs)[k]'hk ∧ (cl bs)[k]'hk ≤ 26
  generalize (cl bs)[k]'hk = y at *
  subst e
  unfold cf
  split <;> omega
set_option maxHeartbeats 1000000 in
set_option maxRecDepth 100000 in
theorem ceilings_calls {w : World} {u : Value} {bs : List Int} (src : Src w .u8 u bs) (hb : ∀ x ∈ bs, 0 ≤ x ∧ x ≤ 255) (hl : bs.length ≤ 1000000000) :
    Calls Try.prog 41 #[u] w fun e w' => e = .returned (.slice (some ⟨w.heap.size, 0, none⟩) 21 21) ∧ RowI w' 3 .i64 w.heap.size 21 (cl bs) ∧ Below w.heap.size w w' := by
  have hm : ∀ w : World, (Instr.makeSlice 54 (.int .i64 21) (.int .i64 21)).run Try.prog w = .ok (.slice (some ⟨w.heap.size, 0, none⟩) 21 21) (w.alloc (.cells (madeCells #[.int .i64 0] 21) 3)) := fun w => run_make_row' 54 3 (.int .i64 0) 8 Try.underlying54 (by kernel_rfl) rfl .i64 .i64 21 (by omega) (by omega) w
  have S := Lib.hid src
  have HB := Lib.hid hb
  obtain ⟨A, c, rfl, _⟩ := src
  obtain ⟨n, hn⟩ : ∃ n, bs.length = n := ⟨_, rfl⟩
  rw [hn] at S hl ⊢
  have HN := Lib.hid hn
  clear hn hb
  go_enter Try.func41, Try.ntmps41
  go_wp2_with fail
  go_loopw [8] (fun i wr => ∃ k : Nat, k ≤ 21 ∧ i = .int .i64 (k : Int) ∧ Hid (RowI wr 3 .i64 w.heap.size 21 (fillTo (cf bs) 21 k)) ∧ Hid (Below w.heap.size w wr)) (fun i _ => 21 - (intOf i).toNat)
  case atStart => exact ⟨0, by omega, rfl, Lib.hid (by rw [fillTo_zero]; exact RowI.new w _ _ 21 0 (by decide)), ((Below.refl _ _).alloc (Nat.le_refl _) _ : Below _ _ _)⟩
  case round =>
    obtain ⟨k, hk, rfl, HR, HBl⟩ := hrel
    by_cases hlt : k < 21
    · by_cases hz : 0 < n
      · have hkn : k % n < n := Nat.mod_lt _ hz
        obtain ⟨ad, rfl, d1⟩ := (Src.below S.out HBl.out).cell (j := k % n) (by rw [HN.out]; exact hkn)
        have bd := HB.out _ (List.getElem_mem (show k % n < bs.length by rw [HN.out]; exact hkn))
        have HV : Hid (cf bs k = bs[k % n]'(by rw [HN.out]; exact hkn) % 27) := Lib.hid (by
          have h2 := Dig.getD_get bs (k % n) (by rw [HN.out]; exact hkn)
          unfold cf
          rw [if_neg (by rw [HN.out]; omega), ← h2]
          congr 3)
        have HS := Lib.hid (fillTo_set (cf bs) 21 k)
        rw [HV.out] at HS
        have dk := HR.out.cell (i := k) (by rw [fillTo_len]; exact hlt)
        have fk := HR.out.free k
        generalize bs[k % n]'(by rw [HN.out]; exact hkn) = x at *
        generalize (fillTo (cf bs) 21 k)[k]'(by rw [fillTo_len]; exact hlt) = y at *
        obtain ⟨j, hj⟩ : ∃ j, k % n = j := ⟨_, rfl⟩
        rw [hj] at d1 hkn
        have e1 : Int.tmod (k : Int) (n : Int) = (j : Int) := by rw [← hj, Int.tmod_eq_emod_of_nonneg (by omega)]; exact (Int.natCast_emod k n).symm
        have e2 : (k : Int) % (n : Int) = (j : Int) := by rw [← hj]; exact (Int.natCast_emod k n).symm
        have z1 : (n : Int) ≠ 0 := by omega
        have z2 : ((n : Int) == 0) = false := by rw [beq_eq_false_iff_ne]; omega
        have w1 : IntKind.i64.wrap (j : Int) = (j : Int) := wrapI64 (by omega) (by omega)
        have ij : (j : Int) < (n : Int) := by omega
        have iz : (0 : Int) < (n : Int) := by omega
        clear hj
        go_wp2_with fail
        go_roundw
        case rel => exact ⟨k + 1, by omega, by push_cast; rfl, Lib.hid (by rw [← HS.out]; exact HR.out.set k _), (HBl.out.setCell (p := ⟨w.heap.size, k, none⟩) (Nat.le_refl _) _ : Below _ _ _)⟩
        case measure => simp [intOf]; omega
      · obtain rfl : n = 0 := by omega
        have HV : Hid (cf bs k = 0) := Lib.hid (by unfold cf; rw [if_pos HN.out])
        have HS := Lib.hid (fillTo_skip (cf bs) 21 k HV.out)
        go_wp2_with fail
        go_roundw
        case rel => exact ⟨k + 1, by omega, by push_cast; rfl, Lib.hid (by rw [← HS.out]; exact HR.out), HBl⟩
        case measure => simp [intOf]; omega
    · obtain rfl : k = 21 := by omega
      go_wp2_with fail
      go_ret
      exact ⟨rfl, HR.out, HBl.out⟩
end Go.Proofs.Ytlbjoflmfboeeaa.Erg

/-
  Law 10: ceilings put are got again (plain), and the walks of Put and Get over objects that lie apart; no condition but those told.
-/
set_option linter.unusedVariables false
set_option linter.unusedSimpArgs false
namespace Go.Proofs.Ytlbjoflmfboeeaa.Erg
open Go.RowKit Go.Proofs.Ytlbjoflmfboeeaa Go.Proofs.YtlbjoflmfboeeaaW.PrintWords Go.Proofs.Ytlbjoflmfboeeaa.Deco

theorem reput_back1 {R : Enc.RSt} (g : Enc.RGood R) {l ah bs : List Int} (hb : ∀ x ∈ bs, 0 ≤ x ∧ x ≤ 255) (k : Nat) (h : Inside bs (reput R l ah (k + 1))) : Inside bs (reput R l ah k) := by
  have g1 := (reput_good g l ah k).1
  unfold reput at h
  split at h
  · exact bits_back hb g1 _ 5 (by decide) h
  · exact sym_back hb g1 ap_good (dif_lt l ah k) h
theorem reput_back {R : Enc.RSt} (g : Enc.RGood R) {l ah bs : List Int} (hb : ∀ x ∈ bs, 0 ≤ x ∧ x ≤ 255) (n : Nat) (h : Inside bs (reput R l ah n)) (k : Nat) (hk : k ≤ n) : Inside bs (reput R l ah k) := by
  obtain ⟨j, rfl⟩ : ∃ j, n = k + j := ⟨n - k, by omega⟩
  clear hk
  induction j with
  | zero => exact h
  | succ j ih => exact ih (reput_back1 g hb (k + j) h)
theorem reput_zero (R : Enc.RSt) (l ah : List Int) : reput R l ah 0 = R := rfl
theorem openS_bs (bs : List Int) : (openS bs).bs = bs := rfl
theorem openS_n (bs : List Int) : (openS bs).n = 4 := rfl
/-- What was put is got. -/
theorem dget_rel {d : DSt} {R : Enc.RSt} (h : DRel d R) (g : Enc.RGood R) {l ah : List Int} (rl : Rt l) (ra : ah.length = 0 ∨ Rt ah) (hb : ∀ x ∈ d.bs, 0 ≤ x ∧ x ≤ 255) (hi : Inside d.bs (reput R l ah 21)) (k : Nat) (hk : k ≤ 21) :
    DRel (dget d ah k).1 (reput R l ah k) ∧ (dget d ah k).2 = l.take k ∧ (dget d ah k).1.bs = d.bs := by
  induction k with
  | zero => exact ⟨h, by simp [dget], rfl⟩
  | succ k ih =>
    obtain ⟨h1, h2, h3⟩ := ih (by omega)
    have g1 := (reput_good g l ah k).1
    have i1 := reput_back g hb 21 hi (k + 1) hk
    have hl : k < l.length := by rw [rl.len]; omega
    have ht : l.take (k + 1) = l.take k ++ [l.getD k 0] := by rw [List.take_succ_eq_append_getElem hl, Dig.getD_get l k hl]
    have bl := rl.getD k
    rw [ht]
    unfold reput at i1
    unfold reput dget
    split
    · rename_i h0
      rw [if_pos h0] at i1
      have e := bits_inv (w := 5) h1 g1 bl.1 (Int.lt_of_le_of_lt bl.2 (by decide)) (by decide) (by rw [h3]; exact hb) (by rw [h3]; exact i1)
      exact ⟨e.2.1, by rw [h2, e.1], by rw [e.2.2, h3]⟩
    · rename_i h0
      rw [if_neg h0] at i1
      have ba := (show Rt ah by rcases ra with r | r; exact absurd r h0; exact r).getD k
      have e := sym_inv h1 g1 ap_good (dif_lt l ah k) (by rw [h3]; exact hb) (by rw [h3]; exact i1)
      refine ⟨e.2.1, ?_, by rw [e.2.2, h3]⟩
      rw [h2, e.1]
      have e2 : (ah.getD k 0 + (dif l ah k : Int)) % 32 = l.getD k 0 := by unfold dif; omega
      rw [e2]
section
variable {W w : World} {L : List Ast}
/-- Ceilings put by themselves. -/
theorem Put1_h {e : Nat} {s : Enc.St} {t : TypeId} {g cap : Nat} {l : List Int} (H : Hp W w (encA e s :: rowA t .i64 g cap l :: L)) (ok : s.Ready) (small : s.k ≤ 700000000) (rl : Rt l) :
    Calls Try.prog 42 #[.pointer (some ⟨e, 0, none⟩), .slice (some ⟨g, 0, none⟩) 21 cap, .slice none 0 0] w fun en w' => en = .returned (.int .i64 0) ∧ Hp W w' (encA e (eput s l [] 21) :: rowA t .i64 g cap l :: L) := by
  obtain ⟨_, _, ⟨v, i, rfl⟩, ⟨r, rfl⟩, g1, g2, ne, K⟩ := H.open1r
  have sr := Src.of_sl (Sl.row r)
  rw [rl.len] at sr
  refine (Put_yes i ok small sr rl (Src.of_sl (Sl.nil w 3 .i64)) (.inl rfl) (fun g' hg => ?_) (fun h => absurd h (by decide))).mono ?_
  · have hg : some g = some g' := hg
    injection hg with hg
    subst hg
    exact ⟨fun x => ne g rfl (.inl x), fun x => ne g rfl (.inr x), (g2 g rfl).2⟩
  · rintro en w' ⟨v', rfl, a, t⟩
    exact ⟨rfl, Enc.step_h (s := s) K a t⟩
/-- Ceilings put by others. -/
theorem Put2_h {e : Nat} {s : Enc.St} {t : TypeId} {g cap ga ca : Nat} {l ah : List Int} (H : Hp W w (encA e s :: rowA t .i64 g cap l :: rowA t .i64 ga ca ah :: L)) (ok : s.Ready) (small : s.k ≤ 700000000) (rl : Rt l) (ra : Rt ah) :
    Calls Try.prog 42 #[.pointer (some ⟨e, 0, none⟩), .slice (some ⟨g, 0, none⟩) 21 cap, .slice (some ⟨ga, 0, none⟩) 21 ca] w fun en w' => en = .returned (.int .i64 0) ∧ Hp W w' (encA e (eput s l ah 21) :: rowA t .i64 g cap l :: rowA t .i64 ga ca ah :: L) := by
  obtain ⟨_, _, _, ⟨v, i, rfl⟩, ⟨r, rfl⟩, ⟨r2, rfl⟩, g1, g2, g3, ne, ne2, _, K⟩ := H.open1rr
  have sr := Src.of_sl (Sl.row r)
  have sr2 := Src.of_sl (Sl.row r2)
  rw [rl.len] at sr
  rw [ra.len] at sr2
  refine (Put_yes i ok small sr rl sr2 (.inr ra) (fun g' hg => ?_) (fun _ g' hg => ?_)).mono ?_
  · have hg : some g = some g' := hg
    injection hg with hg
    subst hg
    exact ⟨fun x => ne g rfl (.inl x), fun x => ne g rfl (.inr x), (g2 g rfl).2⟩
  · have hg : some ga = some g' := hg
    injection hg with hg
    subst hg
    exact ⟨fun x => ne2 ga rfl (.inl x), fun x => ne2 ga rfl (.inr x), (g3 ga rfl).2⟩
  · rintro en w' ⟨v', rfl, a, t⟩
    exact ⟨rfl, Enc.step_h (s := s) K a t⟩
theorem RPut1_h {e : Nat} {R : Enc.RSt} {t : TypeId} {g cap : Nat} {l : List Int} (H : Hp W w (rencA e R :: rowA t .i64 g cap l :: L)) (ok : Enc.RGood R) (small : R.K ≤ 700000000) (rl : Rt l) :
    Calls Try.prog 43 #[.pointer (some ⟨e, 0, none⟩), .slice (some ⟨g, 0, none⟩) 21 cap, .slice none 0 0] w fun en w' => en = .returned (.tuple #[]) ∧ Hp W w' (rencA e (reput R l [] 21) :: rowA t .i64 g cap l :: L) := by
  obtain ⟨_, _, ⟨ge, ce, i, rfl⟩, ⟨r, rfl⟩, g1, g2, ne, K⟩ := H.open1r
  have sr := Src.of_sl (Sl.row r)
  rw [rl.len] at sr
  refine (RPut_yes i ok small sr rl (Src.of_sl (Sl.nil w 3 .i64)) (.inl rfl) (fun g' hg => ?_) (fun h => absurd h (by decide))).mono ?_
  · have hg : some g = some g' := hg
    injection hg with hg
    subst hg
    exact ⟨fun x => ne g rfl (.inl x), fun x => ne g rfl (.inr x), (g2 g rfl).2⟩
  · rintro en w' ⟨g', c', rfl, a, t⟩
    exact ⟨rfl, K (A1' := rencA e _) t.only ⟨g', c', a, rfl⟩ (fun k hk => by
      rcases hk with hk | hk
      · exact .inl (.inl hk)
      · subst hk
        exact t.own.imp .inr id)⟩
theorem RPut2_h {e : Nat} {R : Enc.RSt} {t : TypeId} {g cap ga ca : Nat} {l ah : List Int} (H : Hp W w (rencA e R :: rowA t .i64 g cap l :: rowA t .i64 ga ca ah :: L)) (ok : Enc.RGood R) (small : R.K ≤ 700000000) (rl : Rt l) (ra : Rt ah) :
    Calls Try.prog 43 #[.pointer (some ⟨e, 0, none⟩), .slice (some ⟨g, 0, none⟩) 21 cap, .slice (some ⟨ga, 0, none⟩) 21 ca] w fun en w' => en = .returned (.tuple #[]) ∧ Hp W w' (rencA e (reput R l ah 21) :: rowA t .i64 g cap l :: rowA t .i64 ga ca ah :: L) := by
  obtain ⟨_, _, _, ⟨ge, ce, i, rfl⟩, ⟨r, rfl⟩, ⟨r2, rfl⟩, g1, g2, g3, ne, ne2, _, K⟩ := H.open1rr
  have sr := Src.of_sl (Sl.row r)
  have sr2 := Src.of_sl (Sl.row r2)
  rw [rl.len] at sr
  rw [ra.len] at sr2
  refine (RPut_yes i ok small sr rl sr2 (.inr ra) (fun g' hg => ?_) (fun _ g' hg => ?_)).mono ?_
  · have hg : some g = some g' := hg
    injection hg with hg
    subst hg
    exact ⟨fun x => ne g rfl (.inl x), fun x => ne g rfl (.inr x), (g2 g rfl).2⟩
  · have hg : some ga = some g' := hg
    injection hg with hg
    subst hg
    exact ⟨fun x => ne2 ga rfl (.inl x), fun x => ne2 ga rfl (.inr x), (g3 ga rfl).2⟩
  · rintro en w' ⟨g', c', rfl, a, t⟩
    exact ⟨rfl, K (A1' := rencA e _) t.only ⟨g', c', a, rfl⟩ (fun k hk => by
      rcases hk with hk | hk
      · exact .inl (.inl hk)
      · subst hk
        exact t.own.imp .inr id)⟩
/-- Ceilings got by themselves. -/
theorem Get1_h {d : Nat} {s : DSt} (H : Hp W w (pdecA d s :: L)) (ok : s.Ready) (hn : s.n ≤ 700000000000) (hr : rightB (dget s [] 21).2 = true) :
    Calls Try.prog 44 #[.pointer (some ⟨d, 0, none⟩), .slice none 0 0] w fun en w' => ∃ g cap, en = .returned (.tuple #[.slice (some ⟨g, 0, none⟩) 21 cap, .int .i64 0]) ∧ Hp W w' (rowA 3 .i64 g cap (dget s [] 21).2 :: pdecA d (dget s [] 21).1 :: L) := by
  obtain ⟨_, ⟨v, i, rfl⟩, gd, K⟩ := H.open1
  refine (Get_yes i ok hn (Src.of_sl (Sl.nil w 3 .i64)) (.inl rfl) (fun h => absurd h (by decide))).mono ?_
  rintro en w' ⟨h1, a, o⟩
  rcases h1 with ⟨_, g, cap, rfl, hg, r⟩ | ⟨h1, _⟩
  · exact ⟨g, cap, rfl, Hp.apart (K (A' := Ast.both (rowA 3 .i64 g cap _) (pdecA d _)) (o.mono fun k hk => .inl hk) ⟨_, _, ⟨r, rfl⟩, ⟨v, a, rfl⟩, fun k hk e => by
      have e : k = g := e
      have := gd k hk
      omega, rfl⟩ (fun k hk => by
      rcases hk with hk | hk
      · have hk : k = g := hk
        right; omega
      · exact .inl hk))⟩
  · rw [hr] at h1; cases h1
/-- Ceilings got by others. -/
theorem Get2_h {d : Nat} {s : DSt} {t : TypeId} {ga ca : Nat} {ah : List Int} (H : Hp W w (pdecA d s :: rowA t .i64 ga ca ah :: L)) (ok : s.Ready) (hn : s.n ≤ 700000000000) (ra : Rt ah) (hr : rightB (dget s ah 21).2 = true) :
    Calls Try.prog 44 #[.pointer (some ⟨d, 0, none⟩), .slice (some ⟨ga, 0, none⟩) 21 ca] w fun en w' => ∃ g cap, en = .returned (.tuple #[.slice (some ⟨g, 0, none⟩) 21 cap, .int .i64 0]) ∧ Hp W w' (rowA 3 .i64 g cap (dget s ah 21).2 :: pdecA d (dget s ah 21).1 :: rowA t .i64 ga ca ah :: L) := by
  obtain ⟨_, _, ⟨v, i, rfl⟩, ⟨r2, rfl⟩, gd, g2, ne, K⟩ := H.open1r
  have sr2 := Src.of_sl (Sl.row r2)
  rw [ra.len] at sr2
  refine (Get_yes i ok hn sr2 (.inr ra) (fun h g hg => ?_)).mono ?_
  · have hg : some ga = some g := hg
    injection hg with hg
    subst hg
    exact ⟨fun x => ne ga rfl (.inl x), (g2 ga rfl).2⟩
  rintro en w' ⟨h1, a, o⟩
  rcases h1 with ⟨_, g, cap, rfl, hg, r⟩ | ⟨h1, _⟩
  · exact ⟨g, cap, rfl, Hp.apart (K (A1' := Ast.both (rowA 3 .i64 g cap _) (pdecA d _)) (o.mono fun k hk => .inl hk) ⟨_, _, ⟨r, rfl⟩, ⟨v, a, rfl⟩, fun k hk e => by
      have e : k = g := e
      have := gd k hk
      omega, rfl⟩ (fun k hk => by
      rcases hk with hk | hk
      · have hk : k = g := hk
        right; omega
      · exact .inl hk))⟩
  · rw [hr] at h1; cases h1
theorem ceilings_h (H : Hp W w L) {u : Value} {bs : List Int} (src : Src w .u8 u bs) (hb : ∀ x ∈ bs, 0 ≤ x ∧ x ≤ 255) (hl : bs.length ≤ 1000000000) :
    Calls Try.prog 41 #[u] w fun en w' => ∃ g, en = .returned (.slice (some ⟨g, 0, none⟩) 21 21) ∧ Hp W w' (rowA 3 .i64 g 21 (cl bs) :: L) := by
  refine (ceilings_calls src hb hl).mono ?_
  rintro en w' ⟨rfl, r, b⟩
  exact ⟨_, rfl, H.add_row b r (Nat.le_refl _)⟩
end
end Go.Proofs.Ytlbjoflmfboeeaa.Erg

/-
  Law 10: EnergyPuts; no condition.
-/
set_option linter.unusedVariables false
set_option linter.unusedSimpArgs false
namespace Go.Proofs.Ytlbjoflmfboeeaa.Erg
open Go.RowKit Go.Proofs.Ytlbjoflmfboeeaa Go.Proofs.YtlbjoflmfboeeaaW.PrintWords Go.Proofs.Ytlbjoflmfboeeaa.Deco

attribute [local irreducible] Deco.openS dget cl eput reput Enc.bytesS Enc.strip Enc.fresh Enc.rfresh
set_option maxHeartbeats 4000000 in
set_option maxRecDepth 100000 in
theorem puts_law (a0 : Option Addr) (len0 cap0 : Nat) (z0 : List Int) (a1 : Option Addr) (len1 cap1 : Nat) (z1 : List Int) (W : World) (h0 : IsRow .u8 W a0 len0 cap0 z0) (y0 : len0 * 1 ≤ 140737488351232) (h1 : IsRow .u8 W a1 len1 cap1 z1) (y1 : len1 * 1 ≤ 140737488351232) :
    Calls Try.prog 8 #[.slice a0 len0 cap0, .slice a1 len1 cap1] W fun e w' => e = .returned (.bool true) ∧ Below W.heap.size W w' := by
  by_cases hs : 60 < len0 ∨ 60 < len1
  · by_cases hs1 : 60 < len0
    · go_enter Try.func8, Try.ntmps8
      go_wp2_with fail
      refine (lives_calls _).mono ?_
      rintro e1 w1 ⟨rfl, b1⟩
      have B1 := Lib.hid b1
      have s1 := b1.size
      clear b1
      go_wp2_with fail
      refine (lives_on B1.out s1).mono ?_
      rintro e2 w2 ⟨rfl, b2⟩
      have B2 := Lib.hid b2
      clear b2
      go_wp2_with fail
      go_ret
      exact ⟨rfl, B2.out⟩
    · have hs2 : 60 < len1 := by omega
      clear hs
      go_enter Try.func8, Try.ntmps8
      go_wp2_with fail
      refine (lives_calls _).mono ?_
      rintro e1 w1 ⟨rfl, b1⟩
      have B1 := Lib.hid b1
      have s1 := b1.size
      clear b1
      go_wp2_with fail
      refine (lives_on B1.out s1).mono ?_
      rintro e2 w2 ⟨rfl, b2⟩
      have B2 := Lib.hid b2
      clear b2
      go_wp2_with fail
      go_ret
      exact ⟨rfl, B2.out⟩
  have hs1 : len0 ≤ 60 := by omega
  have hs2 : len1 ≤ 60 := by omega
  clear hs
  have SB := Lib.hid h0.src
  have SA := Lib.hid h1.src
  have WB : Hid (∀ x ∈ z0.take len0, 0 ≤ x ∧ x ≤ 255) := Lib.hid (fun x hx => wf_u8 (h0.wf x hx))
  have WA : Hid (∀ x ∈ z1.take len1, 0 ≤ x ∧ x ≤ 255) := Lib.hid (fun x hx => wf_u8 (h1.wf x hx))
  have L0 := h0.take_len
  have L1 := h1.take_len
  clear h0 h1 y0 y1
  generalize z0.take len0 = ls at *
  generalize z1.take len1 = ls2 at *
  subst L0 L1
  have k1 : decide ((60 : Int) < (ls.length : Int)) = false := decide_eq_false (by omega)
  have k2 : decide ((60 : Int) < (ls2.length : Int)) = false := decide_eq_false (by omega)
  have K0 : Enc.fresh.k = 0 := by unfold Enc.fresh; rfl
  have R0 : Enc.rfresh.K = 0 := by unfold Enc.rfresh; rfl
  have RA := Lib.hid (cl_rt ls)
  have RB := Lib.hid (cl_rt ls2)
  go_enter Try.func8, Try.ntmps8
  go_wp2_with fail
  refine (lives_calls _).mono ?_
  rintro e1 w1 ⟨rfl, b1⟩
  have H1 : Hid (Hp W w1 []) := Lib.hid ((Hp.nil W).keep b1)
  clear b1
  have CC := Lib.hid (ceilings_h H1.out (Src.below SB.out H1.out.b) WB.out (by omega))
  go_wp2_with fail
  refine CC.out.mono ?_
  rintro e2 w2 ⟨ga, rfl, h2⟩
  have H2 := Lib.hid h2
  clear h2 CC H1
  have CC := Lib.hid (ceilings_h H2.out (Src.below SA.out H2.out.b) WA.out (by omega))
  go_wp2_with fail
  refine CC.out.mono ?_
  rintro e3 w3 ⟨gb, rfl, h3⟩
  have H3 := Lib.hid h3
  clear h3 CC H2
  generalize cl ls = A at *
  generalize cl ls2 = B at *
  have CC := Lib.hid (Enc.New_h H3.out)
  go_wp2_with fail
  refine CC.out.mono ?_
  rintro e4 w4 ⟨en, rfl, h4⟩
  have H4 := Lib.hid h4
  clear h4 CC H3
  have CC := Lib.hid (Enc.RNew_h H4.out)
  go_wp2_with fail
  refine CC.out.mono ?_
  rintro e5 w5 ⟨rn, rfl, h5⟩
  have H5 : Hid (Hp W w5 [encA en Enc.fresh, rowA 3 .i64 ga 21 A, rowA 3 .i64 gb 21 B, rencA rn Enc.rfresh]) := Lib.hid (h5.pk [1, 2, 1, 0])
  clear h5 CC H4
  have CC := Lib.hid (Put1_h H5.out Enc.fresh_rdy (by unfold Enc.fresh; decide) RA.out)
  go_wp2_with fail
  refine CC.out.mono ?_
  rintro e6 w6 ⟨rfl, h6⟩
  have H6 : Hid (Hp W w6 [encA en (eput Enc.fresh A [] 21), rowA 3 .i64 gb 21 B, rowA 3 .i64 ga 21 A, rencA rn Enc.rfresh]) := Lib.hid (h6.pk [0, 1, 0, 0])
  clear h6 CC H5
  have E1 := Lib.hid (eput_ready Enc.fresh_rdy A [] 21)
  have CC := Lib.hid (Put2_h H6.out E1.out.1 (by have := E1.out.2; omega) RB.out RA.out)
  go_wp2_with fail
  refine CC.out.mono ?_
  rintro e7 w7 ⟨rfl, h7⟩
  have H7 : Hid (Hp W w7 [rencA rn Enc.rfresh, rowA 3 .i64 ga 21 A, encA en (eput (eput Enc.fresh A [] 21) B A 21), rowA 3 .i64 gb 21 B]) := Lib.hid (h7.pk [3, 2, 0, 0])
  clear h7 CC H6
  have CC := Lib.hid (RPut1_h H7.out Enc.rfresh_good (by unfold Enc.rfresh; decide) RA.out)
  go_wp2_with fail
  refine CC.out.mono ?_
  rintro e8 w8 ⟨rfl, h8⟩
  have R1 := Lib.hid (reput_good Enc.rfresh_good A [] 21)
  have H8 : Hid (Hp W w8 [rencA rn (reput Enc.rfresh A [] 21), rowA 3 .i64 gb 21 B, rowA 3 .i64 ga 21 A, encA en (eput (eput Enc.fresh A [] 21) B A 21)]) := Lib.hid (h8.pk [0, 2, 0, 0])
  clear h8 CC H7
  have CC := Lib.hid (RPut2_h H8.out R1.out.1 (by have := R1.out.2; omega) RB.out RA.out)
  go_wp2_with fail
  refine CC.out.mono ?_
  rintro e9 w9 ⟨rfl, h9⟩
  have R2 := Lib.hid (reput_good R1.out.1 B A 21)
  have E2 := Lib.hid (eput_ready E1.out.1 B A 21)
  have T2 := Lib.hid (eput_rel (eput_rel Enc.fresh_rel Enc.rfresh_good A [] 21) R1.out.1 B A 21)
  have H9 : Hid (Hp W w9 [encA en (eput (eput Enc.fresh A [] 21) B A 21), rencA rn (reput (reput Enc.rfresh A [] 21) B A 21), rowA 3 .i64 gb 21 B, rowA 3 .i64 ga 21 A]) := Lib.hid (h9.pk [3, 0, 0, 0])
  clear h9 CC H8
  have K1 : (eput (eput Enc.fresh A [] 21) B A 21).k ≤ 200 := by have := E2.out.2; have := E1.out.2; omega
  have BR := Lib.hid (Enc.bytes_rel T2.out R2.out.1)
  have BYT := Lib.hid (Enc.bytes_byt T2.out R2.out.1)
  have DIG := Lib.hid R2.out.1.dig
  have LEN : (reput (reput Enc.rfresh A [] 21) B A 21).D.length ≤ 900 := by rw [R2.out.1.len, ← T2.out.k]; omega
  have IN : Hid (Inside (Enc.bytesS (eput (eput Enc.fresh A [] 21) B A 21)) (reput (reput Enc.rfresh A [] 21) B A 21)) := Lib.hid (inside_own R2.out.1 _ (fun i _ => by rw [BR.out]; exact strip_getD _ i))
  rw [BR.out] at BYT IN
  generalize eput (eput Enc.fresh A [] 21) B A 21 = sF at *
  have CC := Lib.hid (Enc.Bytes_h H9.out.drew E2.out.1 (by omega))
  rw [BR.out] at CC
  obtain ⟨bs, hbs⟩ : ∃ bs, Enc.strip (reput (reput Enc.rfresh A [] 21) B A 21).D = bs := ⟨_, rfl⟩
  have HBS := Lib.hid hbs
  rw [hbs] at CC BR BYT IN
  clear hbs
  have BYT1 : Hid (Byt bs) := Lib.hid ⟨BYT.out.1, by have := BYT.out.2; omega⟩
  have IN1 : Hid (Inside bs (reput Enc.rfresh A [] 21)) := Lib.hid (by have := reput_back R1.out.1 BYT.out.1 21 IN.out 0 (by omega); rwa [reput_zero] at this)
  have D1 := Lib.hid (dget_rel (open_rel bs) Enc.rfresh_good RA.out (.inl rfl) (by rw [openS_bs]; exact BYT.out.1) (by rw [openS_bs]; exact IN1.out) 21 (by omega))
  rw [List.take_of_length_le (by rw [RA.out.len]; omega), openS_bs] at D1
  have D2 := Lib.hid (dget_rel D1.out.1 R1.out.1 RB.out (.inr RA.out) (by rw [D1.out.2.2]; exact BYT.out.1) (by rw [D1.out.2.2]; exact IN.out) 21 (by omega))
  rw [List.take_of_length_le (by rw [RB.out.len]; omega)] at D2
  have Y0 := Lib.hid (open_ready bs BYT1.out)
  have Y1 := Lib.hid (dget_ready Y0.out [] 21)
  have Z0 := openS_n bs
  have Z1 : (dget (openS bs) [] 21).1.n ≤ 88 := by have := Y1.out.2.2.2; omega
  obtain ⟨P1, hP1⟩ : ∃ P1, dget (openS bs) [] 21 = P1 := ⟨_, rfl⟩
  have HP1 := Lib.hid hP1
  rw [hP1] at D1 D2 Y1 Z1
  clear hP1
  clear IN1 IN
  go_wp2_with fail
  refine wp_region_noPanic ?_
  refine wp_region_any (by kernel_rfl) ?_
  try (change wpAny _ _ _ _ _ _ _ (World.drew _))
  refine wpAny_take (i := 0) (v := ?_) rfl (by kernel_rfl) (by kernel_rfl) (by kernel_rfl) (fun _ _ _ h => h) (Or.inl ⟨by kernel_rfl, ?_⟩) ?_
  rotate_left
  · intro w
    first | (go_simp; done) | (go_simp; with_reducible rfl)
  try simp only [Act.put, List.getElem_toArray, List.getElem_cons_zero, List.getElem_cons_succ, List.setIfInBounds_toArray, List.set_cons_zero, List.set_cons_succ]
  refine wpAny_take (i := 1) (v := ?_) rfl (by kernel_rfl) (by kernel_rfl) (by kernel_rfl) (fun _ _ _ h => h) (Or.inl ⟨by kernel_rfl, ?_⟩) ?_
  rotate_left
  · intro w
    first | (go_simp; done) | (go_simp; with_reducible rfl)
  try simp only [Act.put, List.getElem_toArray, List.getElem_cons_zero, List.getElem_cons_succ, List.setIfInBounds_toArray, List.set_cons_zero, List.set_cons_succ]
  refine wpAny_take (i := 2) (v := ?_) rfl (by kernel_rfl) (by kernel_rfl) (by kernel_rfl) (fun _ _ _ h => h) (Or.inl ⟨by kernel_rfl, ?_⟩) ?_
  rotate_left
  · intro w
    first | (go_simp; done) | (go_simp; with_reducible rfl)
  try simp only [Act.put, List.getElem_toArray, List.getElem_cons_zero, List.getElem_cons_succ, List.setIfInBounds_toArray, List.set_cons_zero, List.set_cons_succ]
  refine wpAny_take (i := 3) (v := ?_) rfl (by kernel_rfl) (by kernel_rfl) (by kernel_rfl) (fun _ _ _ h => h) (Or.inl ⟨by kernel_rfl, ?_⟩) ?_
  rotate_left
  · intro w
    first | (go_simp; done) | (go_simp; with_reducible rfl)
  try simp only [Act.put, List.getElem_toArray, List.getElem_cons_zero, List.getElem_cons_succ, List.setIfInBounds_toArray, List.set_cons_zero, List.set_cons_succ]
  refine wpAny_take (i := 4) (v := ?_) rfl (by kernel_rfl) (by kernel_rfl) (by kernel_rfl) (fun _ _ _ h => h) (Or.inl ⟨by kernel_rfl, ?_⟩) ?_
  rotate_left
  · intro w
    first | (go_simp; done) | (go_simp; with_reducible rfl)
  try simp only [Act.put, List.getElem_toArray, List.getElem_cons_zero, List.getElem_cons_succ, List.setIfInBounds_toArray, List.set_cons_zero, List.set_cons_succ]
  refine wpAny_take (i := 5) (v := ?_) rfl (by kernel_rfl) (by kernel_rfl) (by kernel_rfl) (fun _ _ _ h => h) (Or.inl ⟨by kernel_rfl, ?_⟩) ?_
  rotate_left
  · intro w
    first | (go_simp; done) | (go_simp; with_reducible rfl)
  try simp only [Act.put, List.getElem_toArray, List.getElem_cons_zero, List.getElem_cons_succ, List.setIfInBounds_toArray, List.set_cons_zero, List.set_cons_succ]
  refine wpAny_take (i := 6) (v := ?_) rfl (by kernel_rfl) (by kernel_rfl) (by kernel_rfl) (fun _ _ _ h => h) (Or.inl ⟨by kernel_rfl, ?_⟩) ?_
  rotate_left
  · intro w
    first | (go_simp; done) | (go_simp; with_reducible rfl)
  try simp only [Act.put, List.getElem_toArray, List.getElem_cons_zero, List.getElem_cons_succ, List.setIfInBounds_toArray, List.set_cons_zero, List.set_cons_succ]
  refine wpAny_take (i := 7) (v := ?_) rfl (by kernel_rfl) (by kernel_rfl) (by kernel_rfl) (fun _ _ _ h => h) (Or.inl ⟨by kernel_rfl, ?_⟩) ?_
  rotate_left
  · intro w
    first | (go_simp; done) | (go_simp; with_reducible rfl)
  try simp only [Act.put, List.getElem_toArray, List.getElem_cons_zero, List.getElem_cons_succ, List.setIfInBounds_toArray, List.set_cons_zero, List.set_cons_succ]
  refine wpAny_take (i := 10) (v := ?_) rfl (by kernel_rfl) (by kernel_rfl) (by kernel_rfl) (fun _ _ _ h => h) (Or.inl ⟨by kernel_rfl, ?_⟩) ?_
  rotate_left
  · intro w
    first | (go_simp; done) | (go_simp; with_reducible rfl)
  try simp only [Act.put, List.getElem_toArray, List.getElem_cons_zero, List.getElem_cons_succ, List.setIfInBounds_toArray, List.set_cons_zero, List.set_cons_succ]
  refine wpAny_ready (rs := [8]) (by kernel_rfl) (by simp) ?_
  refine AllReady.cons rfl (fun K hK => ?_) AllReady.nil
  go_simp
  go_at_call 21
  refine CC.out.mono ?_
  rintro e10 w10 ⟨v10, rfl, h10⟩
  have H10 := Lib.hid h10
  clear h10 CC
  go_simp
  refine hK _ _ ?_
  clear hK K
  try simp only [Act.put, List.getElem_toArray, List.getElem_cons_zero, List.getElem_cons_succ, List.setIfInBounds_toArray, List.set_cons_zero, List.set_cons_succ]
  refine wpAny_of_held (S := fun w => Src w .u8 v10 bs) _ _ _ _ ?_
  have hHeld := Src.of_sl H10.out.sl
  refine wpAnyH_take (i := 9) (v := ?_) rfl (by kernel_rfl) (by kernel_rfl) (by kernel_rfl) (fun _ _ _ h => h) (Or.inl ⟨by kernel_rfl, ?_⟩) hHeld ?_
  rotate_left
  · intro w hSw
    have cvA := Src.str (P := Try.prog) (w := w) (src := 35) (dst := 9) Try.underlying35 Try.underlying5 Try.underlying9 (hSw)
    first | (go_simp; done) | (go_simp; with_reducible rfl)
  try simp only [Act.put, List.getElem_toArray, List.getElem_cons_zero, List.getElem_cons_succ, List.setIfInBounds_toArray, List.set_cons_zero, List.set_cons_succ]
  refine wpAnyH_ready (rs := [11]) (by kernel_rfl) (by simp) ?_
  refine AllReadyH.cons rfl (fun K hK => ?_) AllReadyH.nil
  go_simp
  go_at_call 31
  refine (Enc.RBytes_h H10.out.up2 DIG.out (by omega)).mono ?_
  rintro e11 w11 ⟨v11, rfl, h11⟩
  rw [HBS.out] at h11
  have H11 := Lib.hid h11
  have cv2 := Src.str (P := Try.prog) (w := w11) (src := 35) (dst := 9) Try.underlying35 Try.underlying5 Try.underlying9 (Src.of_sl h11.sl)
  clear h11 H10
  go_simp
  refine hK.out _ _ (Src.of_sl H11.out.up2.sl) (fun hHeld => ?_)
  clear hK K
  try simp only [Act.put, List.getElem_toArray, List.getElem_cons_zero, List.getElem_cons_succ, List.setIfInBounds_toArray, List.set_cons_zero, List.set_cons_succ]
  refine wpAnyH_ready (rs := [12]) (by kernel_rfl) (by simp) ?_
  refine AllReadyH.cons rfl (fun K hK => ?_) AllReadyH.nil
  go_simp
  refine hK.out _ _ hHeld (fun hHeld => ?_)
  clear hK K
  try simp only [Act.put, List.getElem_toArray, List.getElem_cons_zero, List.getElem_cons_succ, List.setIfInBounds_toArray, List.set_cons_zero, List.set_cons_succ]
  refine wpAnyH_take (i := 13) (v := ?_) rfl (by kernel_rfl) (by kernel_rfl) (by kernel_rfl) (fun _ _ _ h => h) (Or.inl ⟨by kernel_rfl, ?_⟩) (by assumption) ?_
  rotate_left
  · intro w hSw
    first | (go_simp; done) | (go_simp; with_reducible rfl)
  try simp only [Act.put, List.getElem_toArray, List.getElem_cons_zero, List.getElem_cons_succ, List.setIfInBounds_toArray, List.set_cons_zero, List.set_cons_succ]
  refine wpAnyH_take (i := 14) (v := ?_) rfl (by kernel_rfl) (by kernel_rfl) (by kernel_rfl) (fun _ _ _ h => h) (Or.inl ⟨by kernel_rfl, ?_⟩) (by assumption) ?_
  rotate_left
  · intro w hSw
    first | (go_simp; done) | (go_simp; with_reducible rfl)
  try simp only [Act.put, List.getElem_toArray, List.getElem_cons_zero, List.getElem_cons_succ, List.setIfInBounds_toArray, List.set_cons_zero, List.set_cons_succ]
  refine wpAnyH_done (by kernel_rfl) ?_ _
  refine NoPanic.normal ?_
  have H12 : Hid (Hp W w11 [encA en sF, rowA 3 .i64 gb 21 B, rowA 3 .i64 ga 21 A]) := Lib.hid (H11.out.pk [3, 3, 3])
  clear H11 cv2 H9
  go_wp2_with fail
  refine (Enc.Bytes_h H12.out E2.out.1 (by omega)).mono ?_
  rintro e13 w13 ⟨v13, rfl, h13⟩
  rw [BR.out] at h13
  have H13 := Lib.hid h13
  clear h13 H12
  go_wp2_with fail
  refine (New_h H13.out (Src.of_sl H13.out.sl) BYT1.out).mono ?_
  rintro e14 w14 ⟨d, rfl, h14⟩
  have H14 : Hid (Hp W w14 [pdecA d (openS bs), rowA 3 .i64 gb 21 B, rowA 3 .i64 ga 21 A]) := Lib.hid (h14.pk [0, 2, 2])
  clear h14 H13
  have CC := Lib.hid (Get1_h H14.out Y0.out (by omega) (by rw [HP1.out, D1.out.2.1]; exact rt_right RA.out))
  rw [HP1.out, D1.out.2.1] at CC
  go_wp2_with fail
  refine CC.out.mono ?_
  rintro e15 w15 ⟨gc, cc, rfl, h15⟩
  have H15 : Hid (Hp W w15 [pdecA d P1.1, rowA 3 .i64 gc cc A, rowA 3 .i64 gb 21 B, rowA 3 .i64 ga 21 A]) := Lib.hid (h15.pk [1, 0, 0, 0])
  clear h15 H14 CC
  have CC := Lib.hid (Get2_h H15.out Y1.out.1 (by omega) RA.out (by rw [D2.out.2.1]; exact rt_right RB.out))
  rw [D2.out.2.1] at CC
  go_wp2_with fail
  refine CC.out.mono ?_
  rintro e16 w16 ⟨gk, ck, rfl, h16⟩
  have H16 : Hid (Hp W w16 [rowA 3 .i64 gk ck B, rowA 3 .i64 gb 21 B, rowA 3 .i64 gc cc A, rowA 3 .i64 ga 21 A]) := Lib.hid (h16.pk [0, 2, 1, 1])
  clear h16 H15 CC
  go_wp2_with fail
  refine (Equal_same (Src.of_sl ((H16.out.pk [3]).row_sl RA.out.len).sl) (Src.of_sl ((H16.out.pk [2]).row_sl RA.out.len).sl) (by rw [RA.out.len]; decide)).mono ?_
  rintro e17 w17 ⟨rfl, n17, rfl⟩
  have H17 := Lib.hid (H16.out.drewN n17)
  go_wp2_with fail
  refine (Equal_same (Src.of_sl ((H17.out.pk [1]).row_sl RB.out.len).sl) (Src.of_sl ((H17.out.pk [0]).row_sl RB.out.len).sl) (by rw [RB.out.len]; decide)).mono ?_
  rintro e18 w18 ⟨rfl, n18, rfl⟩
  go_wp2_with fail
  go_ret
  exact ⟨rfl, (H16.out.drewN _).b⟩
end Go.Proofs.Ytlbjoflmfboeeaa.Erg
