/-
  EnergyCeilings' own walk: the law's loop, its calls, and its answer; no condition.
-/
import Derived.Test.YtoooienmcogbhaaU1
import Derived.Test.YtoooienmcogbhaaUQ
import Derived.Test.YtoooienmcogbhaaPEnergyCeilingsx1
import Derived.Test.YtoooienmcogbhaaPEnergyCeilingsx2
import Derived.Test.YtoooienmcogbhaaPEnergyCeilingsx3
import Derived.Test.YtoooienmcogbhaaPls10
set_option linter.unusedVariables false
set_option linter.unusedSimpArgs false
namespace Go.Proofs.Ytoooienmcogbhaa.Pure
open Go.RowKit Go.Proofs.Ytoooienmcogbhaa Go.Proofs.Ytoooienmcogbhaa.PEnergyCeilings Go.Proofs.Ytoooienmcogbhaa.Ceil Go.Proofs.YtoooienmcogbhaaW.PrintWords Go.Proofs.YtoooienmcogbhaaW.PrintLast Go.Proofs.YtoooienmcogbhaaW.PrintMore


/-- The first j of n places filled. -/
def fillTo (f : Nat → Int) (n j : Nat) : List Int := (List.range n).map (fun i => if i < j then f i else 0)
theorem fillTo_len (f : Nat → Int) (n j : Nat) : (fillTo f n j).length = n := by simp [fillTo]
theorem fillTo_zero (f : Nat → Int) (n : Nat) : fillTo f n 0 = List.replicate n 0 := by
  apply List.ext_getElem <;> simp [fillTo]
theorem fillTo_set (f : Nat → Int) (n j : Nat) : (fillTo f n j).set j (f j) = fillTo f n (j + 1) := by
  apply List.ext_getElem
  · simp [fillTo]
  · intro i h1 h2
    rw [List.getElem_set]
    simp [fillTo] at h1 h2 ⊢
    by_cases hij : j = i
    · subst hij; simp
    · rw [if_neg hij]
      by_cases h3 : i < j
      · rw [if_pos h3, if_pos (by omega)]
      · rw [if_neg h3, if_neg (by omega)]
theorem fillTo_skip (f : Nat → Int) (n j : Nat) (h : f j = 0) : fillTo f n j = fillTo f n (j + 1) := by
  rw [← fillTo_set, h]
  apply List.ext_getElem
  · simp [fillTo]
  · intro i h1 h2
    rw [List.getElem_set]
    by_cases hij : j = i
    · subst hij; simp [fillTo]
    · rw [if_neg hij]
theorem fillTo_get (f : Nat → Int) (n j : Nat) (hj : j < n) : (fillTo f n (j + 1))[j]'(by rw [fillTo_len]; exact hj) = f j := by simp [fillTo]
/-- The line at a place. -/
def lineOf (l : List Int) (j : Nat) : Int := if l.length = 0 then 0 else shr .i32 (rd l ((j % l.length : Nat) : Int)) ((j / l.length % 7 : Nat) : Int)
theorem lineOf_I32 (l : List Int) (hl : ∀ x ∈ l, I32 x) (j : Nat) : I32 (lineOf l j) := by
  unfold lineOf
  split
  · unfold I32; omega
  · exact shr_bd _ (rd_I32 l hl _) _
def lines (l : List Int) : List Int := fillTo (lineOf l) 512 512
theorem lines_len (l : List Int) : (lines l).length = 512 := fillTo_len _ _ _
theorem lines_I32 (l : List Int) (hl : ∀ x ∈ l, I32 x) : ∀ x ∈ lines l, I32 x := by
  intro x hx
  unfold lines fillTo at hx
  obtain ⟨i, hi, rfl⟩ := List.mem_map.1 hx
  simp at hi
  rw [if_pos hi]; exact lineOf_I32 l hl i
theorem lives_calls (w : World) : Calls Try.prog 23 #[] w fun e w' => e = .returned (.bool true) ∧ Below w.heap.size w w' := sidebandlaw10_lives.calls 13001 true w (lives_k _ (by omega))
attribute [local go_sem] max2_int min2_int max_two min_two
theorem wrapI64 {x : Int} (h0 : -9223372036854775808 ≤ x) (h1 : x < 9223372036854775808) : IntKind.i64.wrap x = x := by
  unfold IntKind.wrap
  simp only [IntKind.bits, IntKind.signed]
  simp
  split <;> omega
theorem lives_on {B : Nat} {w0 w : World} (h : Below B w0 w) (hB : B ≤ w.heap.size) : Calls Try.prog 23 #[] w fun e w' => e = .returned (.bool true) ∧ Below B w0 w' :=
  (lives_calls w).mono fun e w' ⟨he, hb⟩ => ⟨he, h.trans (hb.mono hB)⟩
set_option maxHeartbeats 4000000 in
set_option maxRecDepth 100000 in
theorem law_big (l n : List Int) (h : 1500 < l.length ∨ 60 < n.length) (A B : Option Addr) (ca cb : Nat) (w : World) :
    Calls Try.prog 6 #[.slice A l.length ca, .slice B n.length cb] w fun e w' => e = .returned (.bool true) ∧ Below w.heap.size w w' := by
  generalize l.length = p at *
  generalize n.length = q at *
  have hb1 := Below.refl w.heap.size w
  go_enter Try.func6, Try.ntmps6
  go_wp2_with (go_at_call 23; refine (lives_on (by assumption) (hb1.size)).mono ?_; clear hb1; rintro e w1 ⟨rfl, hb1⟩)
  all_goals (go_ret; exact ⟨rfl, hb1⟩)
theorem fillTo_at (f : Nat → Int) (n j : Nat) (h : j < (fillTo f n j).length) : (fillTo f n j)[j] = 0 := by simp [fillTo]
theorem ceil_lines (l : List Int) (hi : ∀ x ∈ l, I32 x) (w : World) (e : Nat) (G cap : Nat) (h : RowI w e .i32 G cap (lines l)) :
    Calls Try.prog 24 #[.slice (some ⟨G, 0, none⟩) 512 cap] w fun e w' => ∃ g c, e = .returned (.tuple #[.slice (some ⟨g, 0, none⟩) 21 c, .int .i64 0]) ∧ w.heap.size ≤ g ∧ RowI w' 3 .i64 g c (ceils (lines l)) ∧ Below w.heap.size w w' := by
  have := Ceilings_yes (lines l) (lines_len l) (lines_I32 l hi) (some ⟨G, 0, none⟩) cap w (C_of_rowI h) h.len.1
  rwa [lines_len] at this
theorem ceil_any (l : List Int) (p : Nat) (hp : l.length = p) (hi : ∀ x ∈ l, I32 x) (A : Option Addr) (c : Nat) (w : World) (hr : (Kd.int .i32).C w A l.length l) (hc : p ≤ c) :
    Calls Try.prog 24 #[.slice A p c] w fun e w' => ∃ v x, e = .returned (.tuple #[v, .int .i64 x]) ∧ (x == 0) = ((p : Int) == 512) ∧ Below w.heap.size w w' := by
  subst hp
  by_cases h : l.length = 512
  · refine (Ceilings_yes l h hi A c w hr hc).mono ?_
    rintro e w' ⟨g, cap, rfl, _, _, hb⟩
    exact ⟨_, _, rfl, by rw [h]; rfl, hb⟩
  · refine (Ceilings_no l h A c w).mono ?_
    rintro e w' ⟨rfl, rfl⟩
    exact ⟨_, _, rfl, by rw [show ((l.length : Int) == 512) = false from by rw [beq_eq_false_iff_ne]; omega]; rfl, Below.refl _ _⟩
theorem drawn_below {w w' : World} (h : Drawn0 w w') : Below w.heap.size w w' := by
  obtain ⟨⟨n, rfl⟩⟩ := h
  exact pw_below_drewN (Below.refl _ _) n
theorem ref_lines (l : List Int) (hi : ∀ x ∈ l, I32 x) (w : World) (e : Nat) (G cap : Nat) (h : RowI w e .i64 G cap (lines l)) :
    Calls Try.prog 26 #[.slice (some ⟨G, 0, none⟩) 512 cap] w fun e w' => ∃ g c, e = .returned (.slice (some ⟨g, 0, none⟩) 21 c) ∧ w.heap.size ≤ g ∧ RowI w' 3 .i64 g c (ceils (lines l)) ∧ Below w.heap.size w w' := by
  have := sidebandref10_Ceilings.calls 13000 (some ⟨G, 0, none⟩) cap (lines l) (ceils (lines l)) w (C_of_rowI h) h.len.1 (rceil_eq 13000 (by omega) _ (lines_len l) (lines_I32 l hi))
  rw [lines_len] at this
  refine this.mono ?_
  rintro e w' ⟨v, rfl, hr, hb⟩
  obtain ⟨g, cap, hv, hg, hrow⟩ := rowI_of_R hr (by rw [ceils_len]; omega)
  rw [ceils_len] at hv
  exact ⟨g, cap, by rw [hv], hg, hrow, hb⟩
theorem same_on (l : List Int) (hl : l.length = 21) (e : Nat) (w : World) (g c g' c' : Nat) (h : RowI w e .i64 g c l) (h' : RowI w e .i64 g' c' l) :
    Calls Try.prog 25 #[.slice (some ⟨g, 0, none⟩) 21 c, .slice (some ⟨g', 0, none⟩) 21 c'] w fun e w' => e = .returned (.bool true) ∧ Below w.heap.size w w' := by
  have := slices_Equal_int_int.calls 1000 (some ⟨g, 0, none⟩) c l (some ⟨g', 0, none⟩) c' l true w (C_of_rowI h) h.len.1 (C_of_rowI h') h'.len.1 (equal_self 1000 l (by omega) (by omega))
  rw [hl] at this
  refine this.mono ?_
  rintro e w' ⟨rfl, hd⟩
  exact ⟨rfl, drawn_below hd⟩
theorem right_on (l : List Int) (k : Nat) (hk : l.length = k) (hb : k ≤ 60) (A : Option Addr) (c : Nat) (w : World) (h : (Kd.int .i64).C w A l.length l) (hc : k ≤ c) :
    Calls Try.prog 27 #[.slice A k c] w fun e w' => e = .returned (.bool (rightB l)) ∧ Below w.heap.size w w' := by
  subst hk
  refine (energy_Right.calls 1000 A c l _ w h hc (right_eq 1000 l (by omega) (by omega))).mono ?_
  rintro e w' ⟨rfl, hd⟩
  exact ⟨rfl, drawn_below hd⟩
theorem rright_on (l : List Int) (k : Nat) (hk : l.length = k) (hb : k ≤ 60) (A : Option Addr) (c : Nat) (w : World) (h : (Kd.int .i64).C w A l.length l) (hc : k ≤ c) :
    Calls Try.prog 28 #[.slice A k c] w fun e w' => e = .returned (.bool (rightB l)) ∧ Below w.heap.size w w' := by
  subst hk
  refine (sidebandref10_Right.calls 1000 A c l _ w h hc (rright_eq 1000 l (by omega) (by omega))).mono ?_
  rintro e w' ⟨rfl, hd⟩
  exact ⟨rfl, drawn_below hd⟩
theorem lines_eq (l : List Int) : fillTo (lineOf l) 512 512 = lines l := rfl
attribute [local irreducible] ceils lines
theorem RowI.new2 (w : World) (o : Obj) (e : TypeId) (k : IntKind) (n : Nat) (v : Int) (hn : n ≤ maxLen) : RowI ((w.alloc o).alloc (.cells (madeCells #[.int k v] n) e)) e k (w.heap.size + 1) n (List.replicate n v) := by
  have := RowI.new (w.alloc o) e k n v hn
  have hs : (w.alloc o).heap.size = w.heap.size + 1 := by simp
  rwa [hs] at this
set_option maxHeartbeats 4000000 in
set_option maxRecDepth 100000 in
theorem law_small (l n : List Int) (h1 : l.length ≤ 1500) (h2 : n.length ≤ 60) (hi : ∀ x ∈ l, I32 x) (A B : Option Addr) (ca cb : Nat) (w : World) (hr : (Kd.int .i32).C w A l.length l) (hc : l.length ≤ ca) (hs : (Kd.int .i64).C w B n.length n) (hd : n.length ≤ cb) :
    Calls Try.prog 6 #[.slice A l.length ca, .slice B n.length cb] w fun e w' => e = .returned (.bool true) ∧ Below w.heap.size w w' := by
  have HR := Lib.hid hr
  have HS := Lib.hid hs
  have HI := Lib.hid hi
  obtain ⟨p, hp⟩ : ∃ p, l.length = p := ⟨_, rfl⟩
  obtain ⟨q, hq⟩ : ∃ q, n.length = q := ⟨_, rfl⟩
  have HP := Lib.hid hp
  have HQ := Lib.hid hq
  rw [hp] at h1 hc ⊢
  rw [hq] at h2 hd ⊢
  clear hr hs hi hp hq
  have m1 : ∀ w : World, (Instr.makeSlice 40 (.int .i64 512) (.int .i64 512)).run Try.prog w = .ok (.slice (some ⟨w.heap.size, 0, none⟩) 512 512) (w.alloc (.cells (madeCells #[.int .i32 0] 512) 21)) := fun w => run_make_row' 40 21 (.int .i32 0) 4 Try.underlying40 (by kernel_rfl) rfl .i64 .i64 512 (by omega) (by omega) w
  have m2 : ∀ w : World, (Instr.makeSlice 42 (.int .i64 512) (.int .i64 512)).run Try.prog w = .ok (.slice (some ⟨w.heap.size, 0, none⟩) 512 512) (w.alloc (.cells (madeCells #[.int .i64 0] 512) 2)) := fun w => run_make_row' 42 2 (.int .i64 0) 8 Try.underlying42 (by kernel_rfl) rfl .i64 .i64 512 (by omega) (by omega) w
  go_enter Try.func6, Try.ntmps6
  go_wp2_with (go_at_call 23; refine (lives_calls _).mono ?_; rintro e w1 ⟨rfl, hb1⟩)
  have hsz := hb1.size
  go_cut [5, 6] (fun v5 v6 wc => ∃ G H : Nat, v5 = .slice (some ⟨G, 0, none⟩) 512 512 ∧ v6 = .slice (some ⟨H, 0, none⟩) 512 512 ∧ G ≠ H ∧ w.heap.size ≤ G ∧ w.heap.size ≤ H ∧ Hid (RowI wc 21 .i32 G 512 (List.replicate 512 0)) ∧ Hid (RowI wc 2 .i64 H 512 (List.replicate 512 0)) ∧ Hid (Below w.heap.size w wc))
  case first =>
    go_region
    all_goals (go_wp2; go_meet)
    · exact ⟨_, _, rfl, rfl, by omega, hsz, by omega, (RowI.new w1 _ _ 512 0 (by decide)).alloc _, RowI.new2 w1 _ _ _ 512 0 (by decide), (((hb1.alloc hsz _).alloc (by simp; omega) _).drew : Below _ _ _)⟩
    · exact ⟨_, _, rfl, rfl, by omega, by omega, hsz, RowI.new2 w1 _ _ _ 512 0 (by decide), (RowI.new w1 _ _ 512 0 (by decide)).alloc _, (((hb1.alloc hsz _).alloc (by simp; omega) _).drew : Below _ _ _)⟩
  case rest =>
    clear hb1 hsz m1 m2
    obtain ⟨G, H, rfl, rfl, hne, hG, hH, HX, HY, HB⟩ := hcut
    go_wp2
    go_loopw [29] (fun i wr => ∃ j : Nat, j ≤ 512 ∧ i = .int .i64 j ∧ Hid (RowI wr 21 .i32 G 512 (fillTo (lineOf l) 512 j)) ∧ Hid (RowI wr 2 .i64 H 512 (fillTo (lineOf l) 512 j)) ∧ Hid (Below w.heap.size w wr)) (fun i _ => 512 - (intOf i).toNat)
    case atStart => exact ⟨0, by omega, rfl, by rw [fillTo_zero]; exact HX, by rw [fillTo_zero]; exact HY, HB⟩
    case round =>
      clear HX HY HB
      obtain ⟨j, hj, rfl, HX, HY, HB⟩ := hrel
      by_cases hjl : j < 512
      · have d1 := HX.out.cell (i := j) (by rw [fillTo_len]; exact hjl)
        have f1 := HX.out.free j
        have d3 := HY.out.cell (i := j) (by rw [fillTo_len]; exact hjl)
        have f3 := HY.out.free j
        rw [fillTo_at] at d1 d3
        by_cases h0 : 0 < p
        · have hx : j % p < l.length := by rw [HP.out]; exact Nat.mod_lt _ h0
          obtain ⟨ad, rfl, d2⟩ := cell_C HR.out hx
          have had : (ad.add (j % p)).block < w.heap.size := World.block_lt_of_cell? w _ d2
          rw [← HB.out.cell had] at d2
          have HV := Lib.hid (show lineOf l j = l[j % p] / 2 ^ min (j / p % 7) 32 from by
            unfold lineOf shr
            rw [if_neg (by rw [HP.out]; omega), HP.out, rd_nat _ _ hx, Int.toNat_natCast]; rfl)
          generalize l[j % p] = y at *
          have e1 : Int.tmod (j : Int) (p : Int) = ((j % p : Nat) : Int) := by rw [Int.tmod_eq_emod_of_nonneg (Int.natCast_nonneg _)]; rfl
          have e2 : Int.tdiv (j : Int) (p : Int) = ((j / p : Nat) : Int) := by rw [Int.tdiv_eq_ediv_of_nonneg (Int.natCast_nonneg _)]; rfl
          have hq : j / p ≤ j := Nat.div_le_self _ _
          have hm : j % p < p := Nat.mod_lt _ h0
          have e4 : Int.tmod ((j / p : Nat) : Int) 7 = ((j / p % 7 : Nat) : Int) := by rw [Int.tmod_eq_emod_of_nonneg (Int.natCast_nonneg _)]; rfl
          have z1 : (p : Int) ≠ 0 := by omega
          have z2 : ((p : Int) == 0) = false := by rw [beq_eq_false_iff_ne]; omega
          have z3 : p ≠ 0 := by omega
          generalize j % p = jm at *
          generalize j / p = jq at *
          have e3 : IntKind.i64.wrap (jq : Int) = (jq : Int) := wrapI64 (by omega) (by omega)
          generalize jq % 7 = js at *
          have z4 : ¬ ((js : Int) < 0) := by omega
          have z5 : decide ((js : Int) < 0) = false := decide_eq_false z4
          have z6 : decide (0 ≤ (js : Int)) = true := decide_eq_true (by omega)
          go_wp2_with fail
          go_still_tail 16, (by kernel_rfl)
          go_wp2_with fail
          have hI := lineOf_I32 l HI.out j
          unfold I32 at hI
          refine ⟨⟨j + 1, by omega, by push_cast; rfl, ?_, ?_, (((HB.out.setCell (p := ⟨G, j, none⟩) hG _).setCell (p := ⟨H, j, none⟩) hH _).drew : Below _ _ _)⟩, by simp [intOf]; omega⟩
          · rw [← fillTo_set, HV.out]
            exact (HX.out.set j _).other (a := ⟨H, j, none⟩) hne _
          · rw [← HV.out, w64 (by omega) (by omega), ← fillTo_set]
            exact (HY.out.other (a := ⟨G, j, none⟩) (Ne.symm hne) _).set j _
        · have HV := Lib.hid (show lineOf l j = 0 from by unfold lineOf; rw [if_pos (by rw [HP.out]; omega)])
          go_wp2_with fail
          refine ⟨⟨j + 1, by omega, by push_cast; rfl, ?_, ?_, HB.out.setCell (p := ⟨H, j, none⟩) hH _⟩, by simp [intOf]; omega⟩
          · rw [← fillTo_skip _ _ _ HV.out]
            exact HX.out.other (a := ⟨H, j, none⟩) hne _
          · have := HY.out.set j (lineOf l j)
            rw [fillTo_set, HV.out] at this
            exact this
      · obtain rfl : j = 512 := by omega
        have HX1 : Hid (RowI wr 21 .i32 G 512 (lines l)) := by rw [← lines_eq]; exact HX
        have HY1 : Hid (RowI wr 2 .i64 H 512 (lines l)) := by rw [← lines_eq]; exact HY
        have hgs := HX.out.lt
        have hhs := HY.out.lt
        clear HX HY
        have hi2 := HI.out
        have hbw := HB.out.size
        go_wp2_with (first
          | (go_at_call 24; refine (ceil_lines l hi2 _ _ _ 512 HX1.out).mono ?_; rintro e w2 ⟨ge, ce, rfl, hge, hre, hb2⟩; replace HY1 : Hid (RowI w2 2 .i64 H 512 (lines l)) := HY1.out.below hb2 hhs; have hgl := hre.lt; have HB2 : Hid (Below w.heap.size w w2) := HB.out.trans (hb2.mono hbw); have hsz2 := hb2.size; clear HX1 HB hb2)
          | (go_at_call 24; refine (ceil_any l p HP.out hi2 _ _ _ (Kd.C_below HR.out HB2.out) hc).mono ?_; rintro e w3 ⟨v3, x3, rfl, hx3, hb3⟩; replace HY1 : Hid (RowI w3 2 .i64 H 512 (lines l)) := HY1.out.below hb3 (by omega); replace hre := hre.below hb3 hgl; have HB3 : Hid (Below w.heap.size w w3) := HB2.out.trans (hb3.mono (by omega)); have hsz3 := hb3.size; clear HB2 hb3)
          | (go_at_call 26; refine (ref_lines l hi2 _ _ _ 512 HY1.out).mono ?_; rintro e w4 ⟨gf, cf, rfl, hgf, hrf, hb4⟩; replace hre := hre.below hb4 (by omega); have HB4 : Hid (Below w.heap.size w w4) := HB3.out.trans (hb4.mono (by omega)); have hfl := hrf.lt; have hsz4 := hb4.size; clear HB3 hb4)
          | (go_at_call 25; refine (same_on (ceils (lines l)) (ceils_len (lines l)) _ _ _ _ _ _ hre hrf).mono ?_; rintro e w5 ⟨rfl, hb5⟩; replace hre := hre.below hb5 (by omega); have HB5 : Hid (Below w.heap.size w w5) := HB4.out.trans (hb5.mono (by omega)); have hsz5 := hb5.size; clear HB4 hb5)
          | (go_at_call 27; refine (right_on n q HQ.out h2 _ _ _ (Kd.C_below HS.out HB5.out) hd).mono ?_; rintro e w6 ⟨rfl, hb6⟩; replace hre := hre.below hb6 (by omega); have HB6 : Hid (Below w.heap.size w w6) := HB5.out.trans (hb6.mono (by omega)); have hsz6 := hb6.size; clear HB5 hb6)
          | (go_at_call 28; refine (rright_on n q HQ.out h2 _ _ _ (Kd.C_below HS.out HB6.out) hd).mono ?_; rintro e w7 ⟨rfl, hb7⟩; replace hre := hre.below hb7 (by omega); have HB7 : Hid (Below w.heap.size w w7) := HB6.out.trans (hb7.mono (by omega)); have hsz7 := hb7.size; clear HB6 hb7)
          | (go_at_call 27; refine (right_on (ceils (lines l)) 21 (ceils_len (lines l)) (by omega) _ _ _ (C_of_rowI hre) (by rw [← ceils_len (lines l)]; exact hre.len.1)).mono ?_; rintro e w8 ⟨rfl, hb8⟩; replace hre := hre.below hb8 (by omega); have HB8 : Hid (Below w.heap.size w w8) := HB7.out.trans (hb8.mono (by omega)); have hsz8 := hb8.size; clear HB7 hb8)
          | (go_at_call 28; refine (rright_on (ceils (lines l)) 21 (ceils_len (lines l)) (by omega) _ _ _ (C_of_rowI hre) (by rw [← ceils_len (lines l)]; exact hre.len.1)).mono ?_; rintro e w9 ⟨rfl, hb9⟩; have HB9 : Hid (Below w.heap.size w w9) := HB8.out.trans (hb9.mono (by omega)); clear HB8 hb9))
        go_ret
        exact ⟨rfl, HB9.out⟩
theorem law_all (l n : List Int) (hi : ∀ x ∈ l, I32 x) (A B : Option Addr) (ca cb : Nat) (w : World) (hr : (Kd.int .i32).C w A l.length l) (hc : l.length ≤ ca) (hs : (Kd.int .i64).C w B n.length n) (hd : n.length ≤ cb) :
    Calls Try.prog 6 #[.slice A l.length ca, .slice B n.length cb] w fun e w' => e = .returned (.bool true) ∧ Below w.heap.size w w' := by
  by_cases h1 : 1500 < l.length
  · exact law_big l n (.inl h1) A B ca cb w
  by_cases h2 : 60 < n.length
  · exact law_big l n (.inr h2) A B ca cb w
  exact law_small l n (by omega) (by omega) hi A B ca cb w hr hc hs hd
end Go.Proofs.Ytoooienmcogbhaa.Pure
