/-
  Packets: the document's Parse. No condition but those told.
-/
import Derived.Test.YtdekdcleeignoaaPkx
set_option linter.unusedVariables false
set_option linter.unusedSimpArgs false
namespace Go.Proofs.Ytdekdcleeignoaa.Pk
open Go.RowKit Go.Proofs.Ytdekdcleeignoaa Go.Proofs.YtdekdcleeignoaaW.PrintWords
/-- What the document's Parse answers. -/
def RPost (w : World) (A0 : Option Addr) (b : List Int) (e : Ending) (w' : World) : Prop :=
  (∃ p n A m c, parse b = (some p, n, 0) ∧ e = .returned (.tuple #[.agg (pcells p (.slice A m c)), .int .i64 n, .int .i64 0]) ∧ (∀ w0, Lies w0 A0 b → Src w0 .u8 (.slice A m c) p.pay) ∧ Below w.heap.size w w') ∨
  (∃ er, parse b = (none, 0, er) ∧ e = .returned (.tuple #[.agg zcells, .int .i64 0, .int .i64 er]) ∧ Below w.heap.size w w')
theorem rsmall_post {w w' : World} {A0 : Option Addr} {b : List Int} {e : Ending} {er : Int} (h : parse b = (none, 0, er)) (he : e = .returned (.tuple #[.agg zcells, .int .i64 0, .int .i64 er])) (hB : Below w.heap.size w w') : RPost w A0 b e w' := by
  unfold RPost
  exact .inr ⟨er, h, he, hB⟩
theorem rbig_post {w w' : World} {A0 : Option Addr} {b : List Int} {e : Ending} {p : P} {n : Nat} {A : Option Addr} {m c : Nat} (h : parse b = (some p, n, 0)) (he : e = .returned (.tuple #[.agg (pcells p (.slice A m c)), .int .i64 n, .int .i64 0])) (hs : ∀ w0, Lies w0 A0 b → Src w0 .u8 (.slice A m c) p.pay) (hB : Below w.heap.size w w') : RPost w A0 b e w' := by
  unfold RPost
  exact .inl ⟨p, n, A, m, c, h, he, hs, hB⟩
attribute [local irreducible] RPost
set_option maxHeartbeats 1000000 in
set_option maxRecDepth 100000 in
theorem rParse_s0 {w : World} {c : Nat} {b : List Int} (hn : b.length = 0) :
    Calls Try.prog 12 #[.slice none 0 c] w fun e w' => RPost w none b e w' := by
  have HN := Lib.hid hn
  obtain ⟨gb, hgb⟩ : ∃ gb, w.heap.size = gb := ⟨_, rfl⟩
  have B0 : Hid (Below w.heap.size w (w.alloc (.cells #[.int .u32 0, .int .u32 0, .bool false, .slice none 0 0] 33))) := Lib.hid ((Below.refl _ _).alloc (Nat.le_refl _) _)
  clear hn
  go_enter Try.func12, Try.ntmps12
  have OD := Lib.hid (fine_odd (b := b) (k := 0) ⟨fun h => absurd h (by decide), fun h => absurd h (by decide), fun h => absurd h (by decide)⟩ (by rw [HN.out]; omega))
  have po := Lib.hid (parse_cut1 OD.out (by rw [HN.out]; decide))
  go_wp2_with (fail)
  exact bodyPost_ret (v := .tuple #[.agg zcells, .int .i64 0, .int .i64 2]) (by simp [results, Try.results12, go_sem, hgb, zcells]) rfl (rsmall_post po.out rfl ((Below.refl _ _).alloc (Nat.le_refl _) _))
set_option maxHeartbeats 1000000 in
set_option maxRecDepth 100000 in
theorem rParse_s0s {w : World} {ad : Addr} {c : Nat} {b : List Int} (hn : b.length = 0) :
    Calls Try.prog 12 #[.slice (some ad) 0 c] w fun e w' => RPost w (some ad) b e w' := by
  have HN := Lib.hid hn
  obtain ⟨gb, hgb⟩ : ∃ gb, w.heap.size = gb := ⟨_, rfl⟩
  have B0 : Hid (Below w.heap.size w (w.alloc (.cells #[.int .u32 0, .int .u32 0, .bool false, .slice none 0 0] 33))) := Lib.hid ((Below.refl _ _).alloc (Nat.le_refl _) _)
  clear hn
  go_enter Try.func12, Try.ntmps12
  have OD := Lib.hid (fine_odd (b := b) (k := 0) ⟨fun h => absurd h (by decide), fun h => absurd h (by decide), fun h => absurd h (by decide)⟩ (by rw [HN.out]; omega))
  have po := Lib.hid (parse_cut1 OD.out (by rw [HN.out]; decide))
  go_wp2_with (fail)
  exact bodyPost_ret (v := .tuple #[.agg zcells, .int .i64 0, .int .i64 2]) (by simp [results, Try.results12, go_sem, hgb, zcells]) rfl (rsmall_post po.out rfl ((Below.refl _ _).alloc (Nat.le_refl _) _))
set_option maxHeartbeats 1000000 in
set_option maxRecDepth 100000 in
theorem rParse_s1 {w : World} {g off c : Nat} {b : List Int} (hr : Row8 w g off b) (hb : Bytes b) (hn : b.length = 1) (hc : 1 ≤ c) :
    Calls Try.prog 12 #[.slice (some ⟨g, off, none⟩) 1 c] w fun e w' => RPost w (some ⟨g, off, none⟩) b e w' := by
  have glt := hr.lt (by omega)
  have HN := Lib.hid hn
  have x0 := hr 0 (by omega)
  rw [getD_of, Nat.add_zero] at x0
  have b0 := hb _ (List.getElem_mem (show 0 < b.length by omega))
  rw [getD_of] at b0
  obtain ⟨y0, hy0⟩ : ∃ y, b.getD 0 0 = y := ⟨_, rfl⟩
  rw [hy0] at x0 b0
  have Y0 := Lib.hid hy0
  obtain ⟨gb, hgb⟩ : ∃ gb, w.heap.size = gb := ⟨_, rfl⟩
  have B0 : Hid (Below w.heap.size w (w.alloc (.cells #[.int .u32 0, .int .u32 0, .bool false, .slice none 0 0] 33))) := Lib.hid ((Below.refl _ _).alloc (Nat.le_refl _) _)
  have d0 : (w.alloc (.cells #[.int .u32 0, .int .u32 0, .bool false, .slice none 0 0] 33)).cell? ⟨g, off, none⟩ = some (.int .u8 y0) := by rw [Below.cell B0.out glt, x0]
  clear hn hy0 hr hb
  go_enter Try.func12, Try.ntmps12
  by_cases hx0 : y0 = 83
  rotate_left
  · have po := Lib.hid (parse_odd (odd0 (b := b) (by rw [HN.out]; omega) (by rw [Y0.out]; exact hx0)))
    have q1 : (y0 == 83) = false := by rw [beq_eq_false_iff_ne]; exact hx0
    have q2 : (y0 != 83) = true := by rw [bne, q1]; rfl
    go_wp2_with (fail)
    exact bodyPost_ret (v := .tuple #[.agg zcells, .int .i64 0, .int .i64 3]) (by simp [results, Try.results12, go_sem, hgb, zcells]) rfl (rsmall_post po.out rfl ((Below.refl _ _).alloc (Nat.le_refl _) _))
  subst hx0
  have OD := Lib.hid (fine_odd (b := b) (k := 1) ⟨fun _ => Y0.out, fun h => absurd h (by decide), fun h => absurd h (by decide)⟩ (by rw [HN.out]; omega))
  have po := Lib.hid (parse_cut1 OD.out (by rw [HN.out]; decide))
  go_wp2_with (fail)
  exact bodyPost_ret (v := .tuple #[.agg zcells, .int .i64 0, .int .i64 2]) (by simp [results, Try.results12, go_sem, hgb, zcells]) rfl (rsmall_post po.out rfl ((Below.refl _ _).alloc (Nat.le_refl _) _))
set_option maxHeartbeats 1000000 in
set_option maxRecDepth 100000 in
theorem rParse_s2 {w : World} {g off c : Nat} {b : List Int} (hr : Row8 w g off b) (hb : Bytes b) (hn : b.length = 2) (hc : 2 ≤ c) :
    Calls Try.prog 12 #[.slice (some ⟨g, off, none⟩) 2 c] w fun e w' => RPost w (some ⟨g, off, none⟩) b e w' := by
  have glt := hr.lt (by omega)
  have HN := Lib.hid hn
  have x0 := hr 0 (by omega)
  rw [getD_of, Nat.add_zero] at x0
  have b0 := hb _ (List.getElem_mem (show 0 < b.length by omega))
  rw [getD_of] at b0
  obtain ⟨y0, hy0⟩ : ∃ y, b.getD 0 0 = y := ⟨_, rfl⟩
  rw [hy0] at x0 b0
  have Y0 := Lib.hid hy0
  have x1 := hr 1 (by omega)
  rw [getD_of] at x1
  have b1 := hb _ (List.getElem_mem (show 1 < b.length by omega))
  rw [getD_of] at b1
  obtain ⟨y1, hy1⟩ : ∃ y, b.getD 1 0 = y := ⟨_, rfl⟩
  rw [hy1] at x1 b1
  have Y1 := Lib.hid hy1
  obtain ⟨gb, hgb⟩ : ∃ gb, w.heap.size = gb := ⟨_, rfl⟩
  have B0 : Hid (Below w.heap.size w (w.alloc (.cells #[.int .u32 0, .int .u32 0, .bool false, .slice none 0 0] 33))) := Lib.hid ((Below.refl _ _).alloc (Nat.le_refl _) _)
  have d0 : (w.alloc (.cells #[.int .u32 0, .int .u32 0, .bool false, .slice none 0 0] 33)).cell? ⟨g, off, none⟩ = some (.int .u8 y0) := by rw [Below.cell B0.out glt, x0]
  have d1 : (w.alloc (.cells #[.int .u32 0, .int .u32 0, .bool false, .slice none 0 0] 33)).cell? ⟨g, off + 1, none⟩ = some (.int .u8 y1) := by rw [Below.cell B0.out glt, x1]
  clear hn hy0 hy1 hr hb
  go_enter Try.func12, Try.ntmps12
  by_cases hx0 : y0 = 83
  rotate_left
  · have po := Lib.hid (parse_odd (odd0 (b := b) (by rw [HN.out]; omega) (by rw [Y0.out]; exact hx0)))
    have q1 : (y0 == 83) = false := by rw [beq_eq_false_iff_ne]; exact hx0
    have q2 : (y0 != 83) = true := by rw [bne, q1]; rfl
    go_wp2_with (fail)
    exact bodyPost_ret (v := .tuple #[.agg zcells, .int .i64 0, .int .i64 3]) (by simp [results, Try.results12, go_sem, hgb, zcells]) rfl (rsmall_post po.out rfl ((Below.refl _ _).alloc (Nat.le_refl _) _))
  subst hx0
  by_cases hx1 : y1 = 66
  rotate_left
  · have po := Lib.hid (parse_odd (odd1 (b := b) (by rw [HN.out]; omega) (by rw [Y1.out]; exact hx1)))
    have q1 : (y1 == 66) = false := by rw [beq_eq_false_iff_ne]; exact hx1
    have q2 : (y1 != 66) = true := by rw [bne, q1]; rfl
    go_wp2_with (fail)
    exact bodyPost_ret (v := .tuple #[.agg zcells, .int .i64 0, .int .i64 3]) (by simp [results, Try.results12, go_sem, hgb, zcells]) rfl (rsmall_post po.out rfl ((Below.refl _ _).alloc (Nat.le_refl _) _))
  subst hx1
  have OD := Lib.hid (fine_odd (b := b) (k := 2) ⟨fun _ => Y0.out, fun _ => Y1.out, fun h => absurd h (by decide)⟩ (by rw [HN.out]; omega))
  have po := Lib.hid (parse_cut1 OD.out (by rw [HN.out]; decide))
  go_wp2_with (fail)
  exact bodyPost_ret (v := .tuple #[.agg zcells, .int .i64 0, .int .i64 2]) (by simp [results, Try.results12, go_sem, hgb, zcells]) rfl (rsmall_post po.out rfl ((Below.refl _ _).alloc (Nat.le_refl _) _))
set_option maxHeartbeats 1000000 in
set_option maxRecDepth 100000 in
theorem rParse_big {w : World} {g off c n : Nat} {b : List Int} (hr : Row8 w g off b) (hb : Bytes b) (hn : b.length = n) (hc : n ≤ c) (h3 : 3 ≤ n) (hl : n ≤ 100000) :
    Calls Try.prog 12 #[.slice (some ⟨g, off, none⟩) n c] w fun e w' => RPost w (some ⟨g, off, none⟩) b e w' := by
  have m0 : (0 : Int) < (n : Int) := by omega
  have m1 : (1 : Int) < (n : Int) := by omega
  have m2 : (2 : Int) < (n : Int) := by omega
  have p0 : 0 < n := by omega
  have p1 : 1 < n := by omega
  have p2 : 2 < n := by omega
  have HR := Lib.hid hr
  have HB := Lib.hid hb
  have glt := hr.lt (by omega)
  have HN := Lib.hid hn
  have x0 := hr 0 (by omega)
  rw [getD_of, Nat.add_zero] at x0
  have b0 := hb _ (List.getElem_mem (show 0 < b.length by omega))
  rw [getD_of] at b0
  obtain ⟨y0, hy0⟩ : ∃ y, b.getD 0 0 = y := ⟨_, rfl⟩
  rw [hy0] at x0 b0
  have Y0 := Lib.hid hy0
  have x1 := hr 1 (by omega)
  rw [getD_of] at x1
  have b1 := hb _ (List.getElem_mem (show 1 < b.length by omega))
  rw [getD_of] at b1
  obtain ⟨y1, hy1⟩ : ∃ y, b.getD 1 0 = y := ⟨_, rfl⟩
  rw [hy1] at x1 b1
  have Y1 := Lib.hid hy1
  have x2 := hr 2 (by omega)
  rw [getD_of] at x2
  have b2 := hb _ (List.getElem_mem (show 2 < b.length by omega))
  rw [getD_of] at b2
  obtain ⟨y2, hy2⟩ : ∃ y, b.getD 2 0 = y := ⟨_, rfl⟩
  rw [hy2] at x2 b2
  have Y2 := Lib.hid hy2
  obtain ⟨gb, hgb⟩ : ∃ gb, w.heap.size = gb := ⟨_, rfl⟩
  have B0 : Hid (Below w.heap.size w (w.alloc (.cells #[.int .u32 0, .int .u32 0, .bool false, .slice none 0 0] 33))) := Lib.hid ((Below.refl _ _).alloc (Nat.le_refl _) _)
  have d0 : (w.alloc (.cells #[.int .u32 0, .int .u32 0, .bool false, .slice none 0 0] 33)).cell? ⟨g, off, none⟩ = some (.int .u8 y0) := by rw [Below.cell B0.out glt, x0]
  have d1 : (w.alloc (.cells #[.int .u32 0, .int .u32 0, .bool false, .slice none 0 0] 33)).cell? ⟨g, off + 1, none⟩ = some (.int .u8 y1) := by rw [Below.cell B0.out glt, x1]
  have d2 : (w.alloc (.cells #[.int .u32 0, .int .u32 0, .bool false, .slice none 0 0] 33)).cell? ⟨g, off + 2, none⟩ = some (.int .u8 y2) := by rw [Below.cell B0.out glt, x2]
  clear hn hy0 hy1 hy2 hr hb
  go_enter Try.func12, Try.ntmps12
  by_cases hx0 : y0 = 83
  rotate_left
  · have po := Lib.hid (parse_odd (odd0 (b := b) (by rw [HN.out]; omega) (by rw [Y0.out]; exact hx0)))
    have q1 : (y0 == 83) = false := by rw [beq_eq_false_iff_ne]; exact hx0
    have q2 : (y0 != 83) = true := by rw [bne, q1]; rfl
    go_wp2_with (fail)
    exact bodyPost_ret (v := .tuple #[.agg zcells, .int .i64 0, .int .i64 3]) (by simp [results, Try.results12, go_sem, hgb, zcells]) rfl (rsmall_post po.out rfl ((Below.refl _ _).alloc (Nat.le_refl _) _))
  subst hx0
  by_cases hx1 : y1 = 66
  rotate_left
  · have po := Lib.hid (parse_odd (odd1 (b := b) (by rw [HN.out]; omega) (by rw [Y1.out]; exact hx1)))
    have q1 : (y1 == 66) = false := by rw [beq_eq_false_iff_ne]; exact hx1
    have q2 : (y1 != 66) = true := by rw [bne, q1]; rfl
    go_wp2_with (fail)
    exact bodyPost_ret (v := .tuple #[.agg zcells, .int .i64 0, .int .i64 3]) (by simp [results, Try.results12, go_sem, hgb, zcells]) rfl (rsmall_post po.out rfl ((Below.refl _ _).alloc (Nat.le_refl _) _))
  subst hx1
  by_cases hx2 : y2 ≤ 1
  rotate_left
  · have po := Lib.hid (parse_odd (odd2 (b := b) (by rw [HN.out]; omega) (by rw [Y2.out]; omega)))
    have q1 : decide ((1 : Int) < y2) = true := decide_eq_true (by omega)
    go_wp2_with (fail)
    exact bodyPost_ret (v := .tuple #[.agg zcells, .int .i64 0, .int .i64 3]) (by simp [results, Try.results12, go_sem, hgb, zcells]) rfl (rsmall_post po.out rfl ((Below.refl _ _).alloc (Nat.le_refl _) _))
  have q2 : decide ((1 : Int) < y2) = false := decide_eq_false (by omega)
  have OD := Lib.hid (fine_odd (b := b) (k := 3) ⟨fun _ => Y0.out, fun _ => Y1.out, fun _ => by rw [Y2.out]; exact hx2⟩ (by rw [HN.out]; omega))
  by_cases h13 : n < 13
  · have po := Lib.hid (parse_cut1 OD.out (by rw [HN.out]; exact h13))
    have e13 : decide ((n : Int) < 13) = true := decide_eq_true (by omega)
    go_wp2_with fail
    exact bodyPost_ret (v := .tuple #[.agg zcells, .int .i64 0, .int .i64 2]) (by simp [results, Try.results12, go_sem, hgb, zcells]) rfl (rsmall_post po.out rfl ((Below.refl _ _).alloc (Nat.le_refl _) _))
  have e13 : decide ((n : Int) < 13) = false := decide_eq_false (by omega)
  have z1 : (11 : Int) ≤ (c : Int) := by omega
  have z2 : ¬ c = 11 := by omega
  have z3 : (13 : Int) ≤ (c : Int) := by omega
  have z4 : 13 ≤ c := by omega
  have z5 : 11 < c := by omega
  have R1 := Lib.hid (HR.out.below B0.out)
  have TE := told_eq HB.out
  have G1 := Lib.hid (value_h (c := c - 11) (R1.out.cut 11 13) (n := 2) (by rw [cut_len (by rw [HN.out]; omega)]) (cut_bytes HB.out 11 13) (by decide))
  rw [← TE] at G1
  obtain ⟨N, hN⟩ : ∃ N, told b = N := ⟨_, rfl⟩
  rw [hN] at G1
  have HNN := Lib.hid hN
  have nb : N < 65536 := by
    have := (val_bd (cut_bytes HB.out 11 13)).2
    rw [cut_len (by rw [HN.out]; omega), ← TE, hN] at this
    have e : (256 : Int) ^ (13 - 11) = 65536 := by decide
    omega
  clear TE hN
  go_wp2_with fail
  refine G1.out.mono ?_
  rintro e1 w1 ⟨rfl, h1⟩
  subst w1
  obtain ⟨nA, hA⟩ : ∃ nA : Nat, nA = 13 + N := ⟨_, rfl⟩
  obtain ⟨nB, hB⟩ : ∃ nB : Nat, nB = 17 + N := ⟨_, rfl⟩
  have e3 : IntKind.i64.wrap (13 + (N : Int)) = (nA : Int) := by rw [wI64 (by omega) (by omega)]; omega
  have e4 : IntKind.i64.wrap (17 + (N : Int)) = (nB : Int) := by rw [wI64 (by omega) (by omega)]; omega
  clear G1 d0 d1 d2
  by_cases h600 : 600 < N
  · have po := Lib.hid (parse_long OD.out (by rw [HN.out]; exact h13) (by rw [HNN.out]; exact h600))
    have e6 : decide ((600 : Int) < (N : Int)) = true := decide_eq_true (by omega)
    have HA := Lib.hid hA
    have HBB := Lib.hid hB
    clear hA hB
    go_wp2_with fail
    exact bodyPost_ret (v := .tuple #[.agg zcells, .int .i64 0, .int .i64 5]) (by simp [results, Try.results12, go_sem, hgb, zcells]) rfl (rsmall_post po.out rfl ((Below.refl _ _).alloc (Nat.le_refl _) _))
  have e6 : decide ((600 : Int) < (N : Int)) = false := decide_eq_false (by omega)
  by_cases h17 : n < nB
  · have po := Lib.hid (parse_cut2 OD.out (by rw [HN.out]; exact h13) (by rw [HNN.out]; exact h600) (by rw [HN.out, HNN.out]; omega))
    have e7 : decide ((n : Int) < (nB : Int)) = true := decide_eq_true (by omega)
    have HA := Lib.hid hA
    have HBB := Lib.hid hB
    clear hA hB
    go_wp2_with fail
    exact bodyPost_ret (v := .tuple #[.agg zcells, .int .i64 0, .int .i64 2]) (by simp [results, Try.results12, go_sem, hgb, zcells]) rfl (rsmall_post po.out rfl ((Below.refl _ _).alloc (Nat.le_refl _) _))
  have e7 : decide ((n : Int) < (nB : Int)) = false := decide_eq_false (by omega)
  have q3 : (nA : Int) ≤ (c : Int) := by omega
  have q4 : nA ≤ c := by omega
  have q9 : (13 : Int) ≤ (nA : Int) := by omega
  have q10 : 13 ≤ nA := by omega
  have q11 : ¬ c = 13 := by omega
  have q12 : ¬ c = 3 := by omega
  have q13 : ¬ c = 7 := by omega
  have q14 : (7 : Int) ≤ (c : Int) := by omega
  have q16 : (3 : Int) ≤ (c : Int) := by omega
  have q17 : 7 ≤ c := by omega
  have RC : Hid (∀ w', Below w.heap.size w w' → Row8 w' g (off + 3) (cut b 3 7)) := Lib.hid (fun w' hw => (HR.out.below hw).cut 3 7)
  have RD : Hid (∀ w', Below w.heap.size w w' → Row8 w' g (off + 7) (cut b 7 11)) := Lib.hid (fun w' hw => (HR.out.below hw).cut 7 11)
  have L37 : Hid ((cut b 3 7).length = 4) := Lib.hid (by rw [cut_len (by rw [HN.out]; omega)])
  have L711 : Hid ((cut b 7 11).length = 4) := Lib.hid (by rw [cut_len (by rw [HN.out]; omega)])
  have LC : Hid ((cut b 13 nA).length = nA - 13) := Lib.hid (cut_len (by rw [HN.out]; omega))
  have SQ : Hid (∀ w0, Lies w0 (some ⟨g, off, none⟩) b → Src w0 .u8 (.slice (some ⟨g, off + 13, none⟩) (nA - 13) (c - 13)) (cut b 13 nA)) := Lib.hid (fun w0 hl => by
    rcases hl with h | ⟨g', off', h1, h2⟩
    · have h3 := HN.out
      rw [h] at h3
      simp at h3
      omega
    · injection h1 with h1
      injection h1 with h3 h4
      subst h3 h4
      have h := (h2.cut 13 nA).src (c - 13)
      rw [LC.out] at h
      exact h)
  have SP := Lib.hid (SQ.out w (.inr ⟨g, off, rfl, HR.out⟩))
  have PL : Hid (cut b 13 (13 + told b) = cut b 13 nA) := Lib.hid (by rw [HNN.out, ← hA])
  have PK : Hid (pkt b = ⟨val (cut b 3 7), val (cut b 7 11), b.getD 2 0 == 1, cut b 13 nA⟩) := Lib.hid (by unfold pkt; rw [PL.out])
  rw [Y2.out] at PK
  have PE : Hid (((∀ i, i < nB → (bts (pkt b)).getD i 0 = b.getD i 0) → parse b = (some (pkt b), nB, 0)) ∧ (¬ (∀ i, i < nB → (bts (pkt b)).getD i 0 = b.getD i 0) → parse b = (none, 0, 4))) := Lib.hid (by
    have f2 : nB = 17 + told b := by rw [hB, HNN.out]
    rw [f2]
    have g1 : ¬ b.length < 13 := by rw [HN.out]; exact h13
    have g2 : ¬ b.length < 17 + told b := by rw [HN.out, HNN.out]; omega
    have asm := all_same HB.out OD.out (by omega) (by omega)
    refine ⟨fun h => parse_ok OD.out g1 (by rw [HNN.out]; exact h600) g2 (fun hx => hx (asm.1 h)), fun h => parse_sum OD.out g1 (by rw [HNN.out]; exact h600) g2 (fun hx => h (asm.2 hx))⟩)
  obtain ⟨V1, hV1⟩ : ∃ V, val (cut b 3 7) = V := ⟨_, rfl⟩
  obtain ⟨V2, hV2⟩ : ∃ V, val (cut b 7 11) = V := ⟨_, rfl⟩
  have vb1 := val_bd (cut_bytes HB.out 3 7)
  have vb2 := val_bd (cut_bytes HB.out 7 11)
  have p4 : (256 : Int) ^ 4 = 4294967296 := by decide
  rw [L37.out, hV1, p4] at vb1
  rw [L711.out, hV2, p4] at vb2
  clear p4
  have OK : Hid (P.mk V1 V2 (y2 == 1) (cut b 13 nA)).Ok := Lib.hid ⟨⟨vb1.1, by have := vb1.2; omega⟩, ⟨vb2.1, by have := vb2.2; omega⟩, cut_bytes HB.out _ _⟩
  have G2 : Hid (∀ w', Below w.heap.size w w' → Calls Try.prog 23 #[.slice (some ⟨g, off + 3, none⟩) 4 (c - 3)] w' fun e w'' => e = .returned (.int .u32 V1) ∧ w'' = w') := Lib.hid (fun w' hw => by rw [← hV1]; exact value_h (xs := cut b 3 7) (n := 4) (RC.out _ hw) L37.out (cut_bytes HB.out _ _) (by decide))
  have G3 : Hid (∀ w', Below w.heap.size w w' → Calls Try.prog 23 #[.slice (some ⟨g, off + 7, none⟩) 4 (c - 7)] w' fun e w'' => e = .returned (.int .u32 V2) ∧ w'' = w') := Lib.hid (fun w' hw => by rw [← hV2]; exact value_h (xs := cut b 7 11) (n := 4) (RD.out _ hw) L711.out (cut_bytes HB.out _ _) (by decide))
  rw [hV1, hV2] at PK
  have HA := Lib.hid hA
  have HBB := Lib.hid hB
  have H0 : Hid (Hp w (w.alloc (.cells #[.int .u32 0, .int .u32 0, .bool false, .slice none 0 0] 33)) [blkA gb 33 zcells]) := Lib.hid (by have h := (Hp.nil w).new_blk 33 zcells; rw [hgb] at h; exact h)
  have BD : Hid (Below w.heap.size w ((w.alloc (.cells #[.int .u32 0, .int .u32 0, .bool false, .slice none 0 0] 33))).drew) := Lib.hid (B0.out.trans ⟨rfl, rfl, rfl, Nat.le_refl _, fun _ _ => rfl⟩)
  have BE : Hid (Below w.heap.size w (((w.alloc (.cells #[.int .u32 0, .int .u32 0, .bool false, .slice none 0 0] 33))).alloc (.cells #[.int .u32 0, .int .u32 0, .bool false, .slice none 0 0] 33)).drew) := Lib.hid ((B0.out.alloc (by simp) _).trans ⟨rfl, rfl, rfl, Nat.le_refl _, fun _ _ => rfl⟩)
  have hsz : ((w.alloc (.cells #[.int .u32 0, .int .u32 0, .bool false, .slice none 0 0] 33))).heap.size = gb + 1 := by simp [hgb]
  have HF : Hid (Hp w (((w.alloc (.cells #[.int .u32 0, .int .u32 0, .bool false, .slice none 0 0] 33))).alloc (.cells #[.int .u32 V1, .int .u32 V2, .bool (y2 == 1), .slice (some ⟨g, off + 13, none⟩) (nA - 13) (c - 13)] 33)).drew [blkA (gb + 1) 33 #[.int .u32 V1, .int .u32 V2, .bool (y2 == 1), .slice (some ⟨g, off + 13, none⟩) (nA - 13) (c - 13)], blkA gb 33 zcells]) := Lib.hid (by have h := (H0.out.new_blk 33 #[.int .u32 V1, .int .u32 V2, .bool (y2 == 1), .slice (some ⟨g, off + 13, none⟩) (nA - 13) (c - 13)]).drew; rw [hsz] at h; exact h)
  have BF := Lib.hid HF.out.b
  clear hsz
  clear hA hB hV1 hV2 vb1 vb2 RC RD L37 L711 PL
  go_wp2_with fail
  go_cut [6] (fun u wc => ∃ gp, u = .pointer (some ⟨gp, 0, none⟩) ∧ Hid (Hp w wc [blkA gp 33 #[.int .u32 V1, .int .u32 V2, .bool (y2 == 1), .slice (some ⟨g, off + 13, none⟩) (nA - 13) (c - 13)], blkA gb 33 zcells]))
  case first =>
    refine wp_region_noPanic ?_
    refine wp_region_any (by kernel_rfl) ?_
    try (change wpAny _ _ _ _ _ _ _ (World.drew _))
    refine wpAny_of_held (S := fun w5 => Below w.heap.size w w5) _ _ _ _ ?_
    have hHeld := BD.out
    refine wpAnyH_take (i := 0) (v := ?_) rfl (by kernel_rfl) (by kernel_rfl) (by kernel_rfl) (fun _ _ _ h => h) (Or.inl ⟨by kernel_rfl, ?_⟩) hHeld ?_
    rotate_left
    · intro w hSw
      first | (go_simp; done) | (go_simp; with_reducible rfl)
    try simp only [Act.put, List.getElem_toArray, List.getElem_cons_zero, List.getElem_cons_succ, List.setIfInBounds_toArray, List.set_cons_zero, List.set_cons_succ]
    refine wpAnyH_take (i := 1) (v := ?_) rfl (by kernel_rfl) (by kernel_rfl) (by kernel_rfl) (fun _ _ _ h => h) (Or.inl ⟨by kernel_rfl, ?_⟩) hHeld ?_
    rotate_left
    · intro w hSw
      first | (go_simp; done) | (go_simp; with_reducible rfl)
    try simp only [Act.put, List.getElem_toArray, List.getElem_cons_zero, List.getElem_cons_succ, List.setIfInBounds_toArray, List.set_cons_zero, List.set_cons_succ]
    refine wpAnyH_take (i := 3) (v := ?_) rfl (by kernel_rfl) (by kernel_rfl) (by kernel_rfl) (fun _ _ _ h => h) (Or.inl ⟨by kernel_rfl, ?_⟩) hHeld ?_
    rotate_left
    · intro w hSw
      first | (go_simp; done) | (go_simp; with_reducible rfl)
    try simp only [Act.put, List.getElem_toArray, List.getElem_cons_zero, List.getElem_cons_succ, List.setIfInBounds_toArray, List.set_cons_zero, List.set_cons_succ]
    refine wpAnyH_take (i := 4) (v := ?_) rfl (by kernel_rfl) (by kernel_rfl) (by kernel_rfl) (fun _ _ _ h => h) (Or.inl ⟨by kernel_rfl, ?_⟩) hHeld ?_
    rotate_left
    · intro w hSw
      first | (go_simp; done) | (go_simp; with_reducible rfl)
    try simp only [Act.put, List.getElem_toArray, List.getElem_cons_zero, List.getElem_cons_succ, List.setIfInBounds_toArray, List.set_cons_zero, List.set_cons_succ]
    refine wpAnyH_take (i := 6) (v := ?_) rfl (by kernel_rfl) (by kernel_rfl) (by kernel_rfl) (fun _ _ _ h => h) (Or.inl ⟨by kernel_rfl, ?_⟩) hHeld ?_
    rotate_left
    · intro w hSw
      first | (go_simp; done) | (go_simp; with_reducible rfl)
    try simp only [Act.put, List.getElem_toArray, List.getElem_cons_zero, List.getElem_cons_succ, List.setIfInBounds_toArray, List.set_cons_zero, List.set_cons_succ]
    refine wpAnyH_take (i := 7) (v := ?_) rfl (by kernel_rfl) (by kernel_rfl) (by kernel_rfl) (fun _ _ _ h => h) (Or.inl ⟨by kernel_rfl, ?_⟩) hHeld ?_
    rotate_left
    · intro w hSw
      first | (go_simp; done) | (go_simp; with_reducible rfl)
    try simp only [Act.put, List.getElem_toArray, List.getElem_cons_zero, List.getElem_cons_succ, List.setIfInBounds_toArray, List.set_cons_zero, List.set_cons_succ]
    refine wpAnyH_take (i := 8) (v := ?_) rfl (by kernel_rfl) (by kernel_rfl) (by kernel_rfl) (fun _ _ _ h => h) (Or.inl ⟨by kernel_rfl, ?_⟩) hHeld ?_
    rotate_left
    · intro w hSw
      have d2 := (Below.cell hSw glt).trans x2
      first | (go_simp; done) | (go_simp; with_reducible rfl)
    try simp only [Act.put, List.getElem_toArray, List.getElem_cons_zero, List.getElem_cons_succ, List.setIfInBounds_toArray, List.set_cons_zero, List.set_cons_succ]
    refine wpAnyH_take (i := 9) (v := ?_) rfl (by kernel_rfl) (by kernel_rfl) (by kernel_rfl) (fun _ _ _ h => h) (Or.inl ⟨by kernel_rfl, ?_⟩) hHeld ?_
    rotate_left
    · intro w hSw
      first | (go_simp; done) | (go_simp; with_reducible rfl)
    try simp only [Act.put, List.getElem_toArray, List.getElem_cons_zero, List.getElem_cons_succ, List.setIfInBounds_toArray, List.set_cons_zero, List.set_cons_succ]
    refine wpAnyH_take (i := 10) (v := ?_) rfl (by kernel_rfl) (by kernel_rfl) (by kernel_rfl) (fun _ _ _ h => h) (Or.inl ⟨by kernel_rfl, ?_⟩) hHeld ?_
    rotate_left
    · intro w hSw
      first | (go_simp; done) | (go_simp; with_reducible rfl)
    try simp only [Act.put, List.getElem_toArray, List.getElem_cons_zero, List.getElem_cons_succ, List.setIfInBounds_toArray, List.set_cons_zero, List.set_cons_succ]
    refine wpAnyH_take (i := 11) (v := ?_) rfl (by kernel_rfl) (by kernel_rfl) (by kernel_rfl) (fun _ _ _ h => h) (Or.inl ⟨by kernel_rfl, ?_⟩) hHeld ?_
    rotate_left
    · intro w hSw
      first | (go_simp; done) | (go_simp; with_reducible rfl)
    try simp only [Act.put, List.getElem_toArray, List.getElem_cons_zero, List.getElem_cons_succ, List.setIfInBounds_toArray, List.set_cons_zero, List.set_cons_succ]
    refine wpAnyH_take (i := 12) (v := ?_) rfl (by kernel_rfl) (by kernel_rfl) (by kernel_rfl) (fun _ _ _ h => h) (Or.inl ⟨by kernel_rfl, ?_⟩) hHeld ?_
    rotate_left
    · intro w hSw
      first | (go_simp; done) | (go_simp; with_reducible rfl)
    try simp only [Act.put, List.getElem_toArray, List.getElem_cons_zero, List.getElem_cons_succ, List.setIfInBounds_toArray, List.set_cons_zero, List.set_cons_succ]
    refine wpAnyH_take (i := 13) (v := ?_) rfl (by kernel_rfl) (by kernel_rfl) (by kernel_rfl) (fun _ _ _ h => h) (Or.inl ⟨by kernel_rfl, ?_⟩) hHeld ?_
    rotate_left
    · intro w hSw
      first | (go_simp; done) | (go_simp; with_reducible rfl)
    try simp only [Act.put, List.getElem_toArray, List.getElem_cons_zero, List.getElem_cons_succ, List.setIfInBounds_toArray, List.set_cons_zero, List.set_cons_succ]
    refine wpAnyH_ready (rs := [2, 15]) (by kernel_rfl) (by simp) ?_
    refine AllReadyH.cons rfl (fun K hK => ?_) (AllReadyH.cons rfl (fun K hK => ?_) AllReadyH.nil)
    · go_simp
      go_at_call 23
      refine (G2.out _ hHeld).mono ?_
      rintro ea wa ⟨rfl, ha⟩
      subst wa
      go_simp
      refine hK.out _ _ (hHeld) (fun hHeld => ?_)
      clear hK K
      try simp only [Act.put, List.getElem_toArray, List.getElem_cons_zero, List.getElem_cons_succ, List.setIfInBounds_toArray, List.set_cons_zero, List.set_cons_succ]
      refine wpAnyH_ready (rs := [5, 15]) (by kernel_rfl) (by simp) ?_
      refine AllReadyH.cons rfl (fun K hK => ?_) (AllReadyH.cons rfl (fun K hK => ?_) AllReadyH.nil)
      · go_simp
        go_at_call 23
        refine (G3.out _ hHeld).mono ?_
        rintro eb wb ⟨rfl, hb⟩
        subst wb
        go_simp
        refine hK.out _ _ (hHeld) (fun hHeld => ?_)
        clear hK K
        try simp only [Act.put, List.getElem_toArray, List.getElem_cons_zero, List.getElem_cons_succ, List.setIfInBounds_toArray, List.set_cons_zero, List.set_cons_succ]
        refine wpAnyH_take (i := 14) (v := ?_) rfl (by kernel_rfl) (by kernel_rfl) (by kernel_rfl) (fun _ _ _ h => h) (Or.inl ⟨by kernel_rfl, ?_⟩) hHeld ?_
        rotate_left
        · intro w hSw
          first | (go_simp; done) | (go_simp; with_reducible rfl)
        try simp only [Act.put, List.getElem_toArray, List.getElem_cons_zero, List.getElem_cons_succ, List.setIfInBounds_toArray, List.set_cons_zero, List.set_cons_succ]
        refine wpAnyH_ready (rs := [15]) (by kernel_rfl) (by simp) ?_
        refine AllReadyH.cons rfl (fun K hK => ?_) AllReadyH.nil
        go_simp
        go_simp
        refine hK.out _ _ (BE.out) (fun hHeld => ?_)
        clear hK K
        try simp only [Act.put, List.getElem_toArray, List.getElem_cons_zero, List.getElem_cons_succ, List.setIfInBounds_toArray, List.set_cons_zero, List.set_cons_succ]
        refine wpAnyH_ready (rs := [16]) (by kernel_rfl) (by simp) ?_
        refine AllReadyH.cons rfl (fun K hK => ?_) AllReadyH.nil
        go_simp
        go_simp
        refine hK.out _ _ (BF.out) (fun hHeld => ?_)
        clear hK K
        try simp only [Act.put, List.getElem_toArray, List.getElem_cons_zero, List.getElem_cons_succ, List.setIfInBounds_toArray, List.set_cons_zero, List.set_cons_succ]
        refine wpAnyH_done (by kernel_rfl) ?_ _
        refine NoPanic.normal ?_
        go_wp2_with fail
        go_meet
        exact ⟨gb + 1, rfl, HF⟩
      · go_simp
        go_simp
        refine hK.out _ _ (BE.out) (fun hHeld => ?_)
        clear hK K
        try simp only [Act.put, List.getElem_toArray, List.getElem_cons_zero, List.getElem_cons_succ, List.setIfInBounds_toArray, List.set_cons_zero, List.set_cons_succ]
        refine wpAnyH_ready (rs := [5]) (by kernel_rfl) (by simp) ?_
        refine AllReadyH.cons rfl (fun K hK => ?_) AllReadyH.nil
        go_simp
        go_at_call 23
        refine (G3.out _ hHeld).mono ?_
        rintro eb wb ⟨rfl, hb⟩
        subst wb
        go_simp
        refine hK.out _ _ (hHeld) (fun hHeld => ?_)
        clear hK K
        try simp only [Act.put, List.getElem_toArray, List.getElem_cons_zero, List.getElem_cons_succ, List.setIfInBounds_toArray, List.set_cons_zero, List.set_cons_succ]
        refine wpAnyH_take (i := 14) (v := ?_) rfl (by kernel_rfl) (by kernel_rfl) (by kernel_rfl) (fun _ _ _ h => h) (Or.inl ⟨by kernel_rfl, ?_⟩) hHeld ?_
        rotate_left
        · intro w hSw
          first | (go_simp; done) | (go_simp; with_reducible rfl)
        try simp only [Act.put, List.getElem_toArray, List.getElem_cons_zero, List.getElem_cons_succ, List.setIfInBounds_toArray, List.set_cons_zero, List.set_cons_succ]
        refine wpAnyH_ready (rs := [16]) (by kernel_rfl) (by simp) ?_
        refine AllReadyH.cons rfl (fun K hK => ?_) AllReadyH.nil
        go_simp
        go_simp
        refine hK.out _ _ (BF.out) (fun hHeld => ?_)
        clear hK K
        try simp only [Act.put, List.getElem_toArray, List.getElem_cons_zero, List.getElem_cons_succ, List.setIfInBounds_toArray, List.set_cons_zero, List.set_cons_succ]
        refine wpAnyH_done (by kernel_rfl) ?_ _
        refine NoPanic.normal ?_
        go_wp2_with fail
        go_meet
        exact ⟨gb + 1, rfl, HF⟩
    · go_simp
      go_simp
      refine hK.out _ _ (BE.out) (fun hHeld => ?_)
      clear hK K
      try simp only [Act.put, List.getElem_toArray, List.getElem_cons_zero, List.getElem_cons_succ, List.setIfInBounds_toArray, List.set_cons_zero, List.set_cons_succ]
      refine wpAnyH_ready (rs := [2]) (by kernel_rfl) (by simp) ?_
      refine AllReadyH.cons rfl (fun K hK => ?_) AllReadyH.nil
      go_simp
      go_at_call 23
      refine (G2.out _ hHeld).mono ?_
      rintro ea wa ⟨rfl, ha⟩
      subst wa
      go_simp
      refine hK.out _ _ (hHeld) (fun hHeld => ?_)
      clear hK K
      try simp only [Act.put, List.getElem_toArray, List.getElem_cons_zero, List.getElem_cons_succ, List.setIfInBounds_toArray, List.set_cons_zero, List.set_cons_succ]
      refine wpAnyH_ready (rs := [5]) (by kernel_rfl) (by simp) ?_
      refine AllReadyH.cons rfl (fun K hK => ?_) AllReadyH.nil
      go_simp
      go_at_call 23
      refine (G3.out _ hHeld).mono ?_
      rintro eb wb ⟨rfl, hb⟩
      subst wb
      go_simp
      refine hK.out _ _ (hHeld) (fun hHeld => ?_)
      clear hK K
      try simp only [Act.put, List.getElem_toArray, List.getElem_cons_zero, List.getElem_cons_succ, List.setIfInBounds_toArray, List.set_cons_zero, List.set_cons_succ]
      refine wpAnyH_take (i := 14) (v := ?_) rfl (by kernel_rfl) (by kernel_rfl) (by kernel_rfl) (fun _ _ _ h => h) (Or.inl ⟨by kernel_rfl, ?_⟩) hHeld ?_
      rotate_left
      · intro w hSw
        first | (go_simp; done) | (go_simp; with_reducible rfl)
      try simp only [Act.put, List.getElem_toArray, List.getElem_cons_zero, List.getElem_cons_succ, List.setIfInBounds_toArray, List.set_cons_zero, List.set_cons_succ]
      refine wpAnyH_ready (rs := [16]) (by kernel_rfl) (by simp) ?_
      refine AllReadyH.cons rfl (fun K hK => ?_) AllReadyH.nil
      go_simp
      go_simp
      refine hK.out _ _ (BF.out) (fun hHeld => ?_)
      clear hK K
      try simp only [Act.put, List.getElem_toArray, List.getElem_cons_zero, List.getElem_cons_succ, List.setIfInBounds_toArray, List.set_cons_zero, List.set_cons_succ]
      refine wpAnyH_done (by kernel_rfl) ?_ _
      refine NoPanic.normal ?_
      go_wp2_with fail
      go_meet
      exact ⟨gb + 1, rfl, HF⟩
  case rest =>
    obtain ⟨gp, rfl, HC⟩ := hcut
    have k0 := HC.out.blk.cell (i := 0) rfl
    have k1 := HC.out.blk.cell (i := 1) rfl
    have k2 := HC.out.blk.cell (i := 2) rfl
    have k3 := HC.out.blk.cell (i := 3) rfl
    have BL : Hid ((bts (pkt b)).length = nB) := Lib.hid (by rw [bts_len, PK.out]; show 17 + (cut b 13 nA).length = nB; rw [LC.out]; have := HA.out; have := HBB.out; omega)
    have RB : Hid (∀ wc l, Hp w wc l → Calls Try.prog 9 #[.agg #[.int .u32 V1, .int .u32 V2, .bool (y2 == 1), .slice (some ⟨g, off + 13, none⟩) (nA - 13) (c - 13)]] wc fun e w' => ∃ v, e = .returned v ∧ Hp w w' (slA 5 .u8 v (bts (pkt b)) :: l)) := Lib.hid (fun wc l h => by
      have sp := SP.out
      have hle : (cut b 13 nA).length ≤ 65535 := by rw [LC.out]; have := HA.out; omega
      rw [PK.out]
      rw [← LC.out] at sp ⊢
      exact rBytes_h h V1 V2 _ _ OK.out (Rd.arg sp) hle)
    clear H0 HF BD BE BF G2 G3 B0
    go_wp2_with fail
    refine (RB.out _ _ HC.out).mono ?_
    rintro e2 w2 ⟨v, rfl, h2⟩
    obtain ⟨g2, c2, rfl, r2⟩ := Sl_some h2.sl (by rw [BL.out]; have := HBB.out; omega)
    rw [BL.out] at h2 ⊢
    have H2 := Lib.hid h2
    clear h2 r2 HC RB k0 k1 k2 k3
    go_wp2_with fail
    go_loopw [8] (fun u wr => ∃ k : Nat, k ≤ nB ∧ u = .int .i64 (k : Int) ∧ Hid (∀ i, i < k → (bts (pkt b)).getD i 0 = b.getD i 0) ∧ Hid (Hp w wr [slA 5 .u8 (.slice (some ⟨g2, 0, none⟩) nB c2) (bts (pkt b)), blkA gp 33 #[.int .u32 V1, .int .u32 V2, .bool (y2 == 1), .slice (some ⟨g, off + 13, none⟩) (nA - 13) (c - 13)], blkA gb 33 zcells])) (fun u _ => nB - (intOf u).toNat)
    case atStart => exact ⟨0, by omega, rfl, Lib.hid (fun i hi => absurd hi (Nat.not_lt_zero _)), H2⟩
    case round =>
      clear H2
      obtain ⟨k, hk, rfl, AL, H⟩ := hrel
      by_cases hlt : k < nB
      · have kb : k < b.length := by rw [HN.out]; omega
        have CX : Hid (∀ w', Hp w w' [slA 5 .u8 (.slice (some ⟨g2, 0, none⟩) nB c2) (bts (pkt b)), blkA gp 33 #[.int .u32 V1, .int .u32 V2, .bool (y2 == 1), .slice (some ⟨g, off + 13, none⟩) (nA - 13) (c - 13)], blkA gb 33 zcells] → w'.cell? ⟨g2, k, none⟩ = some (.int .u8 ((bts (pkt b)).getD k 0))) := Lib.hid (fun w' hw => by
          obtain ⟨g3, c3, hv, r3⟩ := Sl_some hw.sl (by rw [BL.out]; omega)
          have hg : g2 = g3 := by injection hv with h1; injection h1 with h1; injection h1
          subst hg
          have kl : k < (bts (pkt b)).length := by rw [BL.out]; exact hlt
          rw [← getD_of kl]
          exact r3.cell (i := k) kl)
        have CY : Hid (∀ w', Hp w w' [slA 5 .u8 (.slice (some ⟨g2, 0, none⟩) nB c2) (bts (pkt b)), blkA gp 33 #[.int .u32 V1, .int .u32 V2, .bool (y2 == 1), .slice (some ⟨g, off + 13, none⟩) (nA - 13) (c - 13)], blkA gb 33 zcells] → w'.cell? ⟨g, off + k, none⟩ = some (.int .u8 (b.getD k 0))) := Lib.hid (fun w' hw => by
          rw [← getD_of kb]
          exact (Below.cell hw.b glt).trans (HR.out k kb))
        obtain ⟨x, hx⟩ : ∃ x, (bts (pkt b)).getD k 0 = x := ⟨_, rfl⟩
        obtain ⟨y, hy⟩ : ∃ y, b.getD k 0 = y := ⟨_, rfl⟩
        rw [hx] at CX
        rw [hy] at CY
        have HX := Lib.hid hx
        have HY := Lib.hid hy
        have ki : (k : Int) < (nB : Int) := by omega
        have kn : (k : Int) < (n : Int) := by omega
        have kn2 : k < n := by omega
        have dk : decide ((k : Int) < (nB : Int)) = true := decide_eq_true ki
        clear hx hy kb
        go_wp2_with fail
        refine wp_region_noPanic ?_
        refine wp_region_any (by kernel_rfl) ?_
        try (change wpAny _ _ _ _ _ _ _ (World.drew _))
        refine wpAny_of_held (S := fun w5 => Hp w w5 [slA 5 .u8 (.slice (some ⟨g2, 0, none⟩) nB c2) (bts (pkt b)), blkA gp 33 #[.int .u32 V1, .int .u32 V2, .bool (y2 == 1), .slice (some ⟨g, off + 13, none⟩) (nA - 13) (c - 13)], blkA gb 33 zcells]) _ _ _ _ ?_
        have hHeld := H.out.drew
        refine wpAnyH_take (i := 0) (v := ?_) rfl (by kernel_rfl) (by kernel_rfl) (by kernel_rfl) (fun _ _ _ h => h) (Or.inl ⟨by kernel_rfl, ?_⟩) hHeld ?_
        rotate_left
        · intro w hSw
          first | (go_simp; done) | (go_simp; with_reducible rfl)
        try simp only [Act.put, List.getElem_toArray, List.getElem_cons_zero, List.getElem_cons_succ, List.setIfInBounds_toArray, List.set_cons_zero, List.set_cons_succ]
        refine wpAnyH_take (i := 1) (v := ?_) rfl (by kernel_rfl) (by kernel_rfl) (by kernel_rfl) (fun _ _ _ h => h) (Or.inl ⟨by kernel_rfl, ?_⟩) hHeld ?_
        rotate_left
        · intro w hSw
          first | (go_simp; done) | (go_simp; with_reducible rfl)
        try simp only [Act.put, List.getElem_toArray, List.getElem_cons_zero, List.getElem_cons_succ, List.setIfInBounds_toArray, List.set_cons_zero, List.set_cons_succ]
        refine wpAnyH_take (i := 2) (v := ?_) rfl (by kernel_rfl) (by kernel_rfl) (by kernel_rfl) (fun _ _ _ h => h) (Or.inl ⟨by kernel_rfl, ?_⟩) hHeld ?_
        rotate_left
        · intro w hSw
          first | (go_simp; done) | (go_simp; with_reducible rfl)
        try simp only [Act.put, List.getElem_toArray, List.getElem_cons_zero, List.getElem_cons_succ, List.setIfInBounds_toArray, List.set_cons_zero, List.set_cons_succ]
        refine wpAnyH_take (i := 3) (v := ?_) rfl (by kernel_rfl) (by kernel_rfl) (by kernel_rfl) (fun _ _ _ h => h) (Or.inl ⟨by kernel_rfl, ?_⟩) hHeld ?_
        rotate_left
        · intro w hSw
          have cx := CX.out _ hSw
          first | (go_simp; done) | (go_simp; with_reducible rfl)
        try simp only [Act.put, List.getElem_toArray, List.getElem_cons_zero, List.getElem_cons_succ, List.setIfInBounds_toArray, List.set_cons_zero, List.set_cons_succ]
        refine wpAnyH_take (i := 4) (v := ?_) rfl (by kernel_rfl) (by kernel_rfl) (by kernel_rfl) (fun _ _ _ h => h) (Or.inl ⟨by kernel_rfl, ?_⟩) hHeld ?_
        rotate_left
        · intro w hSw
          first | (go_simp; done) | (go_simp; with_reducible rfl)
        try simp only [Act.put, List.getElem_toArray, List.getElem_cons_zero, List.getElem_cons_succ, List.setIfInBounds_toArray, List.set_cons_zero, List.set_cons_succ]
        refine wpAnyH_take (i := 5) (v := ?_) rfl (by kernel_rfl) (by kernel_rfl) (by kernel_rfl) (fun _ _ _ h => h) (Or.inl ⟨by kernel_rfl, ?_⟩) hHeld ?_
        rotate_left
        · intro w hSw
          first | (go_simp; done) | (go_simp; with_reducible rfl)
        try simp only [Act.put, List.getElem_toArray, List.getElem_cons_zero, List.getElem_cons_succ, List.setIfInBounds_toArray, List.set_cons_zero, List.set_cons_succ]
        refine wpAnyH_take (i := 6) (v := ?_) rfl (by kernel_rfl) (by kernel_rfl) (by kernel_rfl) (fun _ _ _ h => h) (Or.inl ⟨by kernel_rfl, ?_⟩) hHeld ?_
        rotate_left
        · intro w hSw
          first | (go_simp; done) | (go_simp; with_reducible rfl)
        try simp only [Act.put, List.getElem_toArray, List.getElem_cons_zero, List.getElem_cons_succ, List.setIfInBounds_toArray, List.set_cons_zero, List.set_cons_succ]
        refine wpAnyH_take (i := 7) (v := ?_) rfl (by kernel_rfl) (by kernel_rfl) (by kernel_rfl) (fun _ _ _ h => h) (Or.inl ⟨by kernel_rfl, ?_⟩) hHeld ?_
        rotate_left
        · intro w hSw
          have cy := CY.out _ hSw
          first | (go_simp; done) | (go_simp; with_reducible rfl)
        try simp only [Act.put, List.getElem_toArray, List.getElem_cons_zero, List.getElem_cons_succ, List.setIfInBounds_toArray, List.set_cons_zero, List.set_cons_succ]
        refine wpAnyH_take (i := 8) (v := ?_) rfl (by kernel_rfl) (by kernel_rfl) (by kernel_rfl) (fun _ _ _ h => h) (Or.inl ⟨by kernel_rfl, ?_⟩) hHeld ?_
        rotate_left
        · intro w hSw
          first | (go_simp; done) | (go_simp; with_reducible rfl)
        try simp only [Act.put, List.getElem_toArray, List.getElem_cons_zero, List.getElem_cons_succ, List.setIfInBounds_toArray, List.set_cons_zero, List.set_cons_succ]
        refine wpAnyH_done (by kernel_rfl) ?_ _
        refine NoPanic.normal ?_
        generalize wr.drew = wd at hHeld ⊢
        by_cases hq : x = y
        · subst hq
          have AL2 : Hid (∀ i, i < k + 1 → (bts (pkt b)).getD i 0 = b.getD i 0) := Lib.hid (fun i hi => by
            rcases Nat.lt_or_ge i k with h | h
            · exact AL.out i h
            · obtain rfl : i = k := by omega
              rw [HX.out, HY.out])
          have q2 : (x != x) = false := by simp
          have HD := Lib.hid hHeld
          clear hHeld H
          go_wp2_with fail
          go_roundw
          case rel => exact ⟨k + 1, by omega, by go_num, AL2, HD⟩
          case measure => simp [intOf]; omega
        · have po := Lib.hid (PE.out.2 (fun h => hq (by rw [← HX.out, ← HY.out]; exact h k hlt)))
          have q1 : (x == y) = false := by rw [beq_eq_false_iff_ne]; exact hq
          have q2 : (x != y) = true := by rw [bne, q1]; rfl
          have HD := Lib.hid hHeld.drop.drop
          clear hHeld H
          have fr := fun i => HD.out.blk.free i
          have c0 := HD.out.blk.cell (i := 0) rfl
          have c1 := HD.out.blk.cell (i := 1) rfl
          have c2' := HD.out.blk.cell (i := 2) rfl
          have c3 := HD.out.blk.cell (i := 3) rfl
          go_wp2_with fail
          have hz := (((HD.out.bset 0 (.int .u32 0)).bset 1 (.int .u32 0)).bset 2 (.bool false)).bset 3 (.slice none 0 0)
          generalize (((wd.setCell ⟨gb, 0, none⟩ (.int .u32 0)).setCell ⟨gb, 1, none⟩ (.int .u32 0)).setCell ⟨gb, 2, none⟩ (.bool false)).setCell ⟨gb, 3, none⟩ (.slice none 0 0) = wz at hz ⊢
          have z0 : wz.cell? ⟨gb, 0, none⟩ = some (.int .u32 0) := hz.blk.cell (i := 0) rfl
          have z1 : wz.cell? ⟨gb, 1, none⟩ = some (.int .u32 0) := hz.blk.cell (i := 1) rfl
          have z2 : wz.cell? ⟨gb, 2, none⟩ = some (.bool false) := hz.blk.cell (i := 2) rfl
          have z3 : wz.cell? ⟨gb, 3, none⟩ = some (.slice none 0 0) := hz.blk.cell (i := 3) rfl
          exact bodyPost_ret (v := .tuple #[.agg zcells, .int .i64 0, .int .i64 4]) (by simp [results, Try.results12, go_sem, z0, z1, z2, z3, zcells]) rfl (rsmall_post po.out rfl hz.b)
      · obtain rfl : k = nB := by omega
        have po := PE.out.1 AL.out
        rw [PK.out] at po
        have PO := Lib.hid po
        clear po
        have dk : decide ((k : Int) < (k : Int)) = false := decide_eq_false (by omega)
        have k0 := H.out.drop.blk.cell (i := 0) rfl
        have k1 := H.out.drop.blk.cell (i := 1) rfl
        have k2 := H.out.drop.blk.cell (i := 2) rfl
        have k3 := H.out.drop.blk.cell (i := 3) rfl
        have HD := Lib.hid H.out.drop.drop
        have fr := fun i => HD.out.blk.free i
        have c0 := HD.out.blk.cell (i := 0) rfl
        have c1 := HD.out.blk.cell (i := 1) rfl
        have c2' := HD.out.blk.cell (i := 2) rfl
        have c3 := HD.out.blk.cell (i := 3) rfl
        go_wp2_with fail
        have hz := (((HD.out.bset 0 (.int .u32 V1)).bset 1 (.int .u32 V2)).bset 2 (.bool (y2 == 1))).bset 3 (.slice (some ⟨g, off + 13, none⟩) (nA - 13) (c - 13))
        generalize (((wr.setCell ⟨gb, 0, none⟩ (.int .u32 V1)).setCell ⟨gb, 1, none⟩ (.int .u32 V2)).setCell ⟨gb, 2, none⟩ (.bool (y2 == 1))).setCell ⟨gb, 3, none⟩ (.slice (some ⟨g, off + 13, none⟩) (nA - 13) (c - 13)) = wz at hz ⊢
        have z0 : wz.cell? ⟨gb, 0, none⟩ = some (.int .u32 V1) := hz.blk.cell (i := 0) rfl
        have z1 : wz.cell? ⟨gb, 1, none⟩ = some (.int .u32 V2) := hz.blk.cell (i := 1) rfl
        have z2 : wz.cell? ⟨gb, 2, none⟩ = some (.bool (y2 == 1)) := hz.blk.cell (i := 2) rfl
        have z3 : wz.cell? ⟨gb, 3, none⟩ = some (.slice (some ⟨g, off + 13, none⟩) (nA - 13) (c - 13)) := hz.blk.cell (i := 3) rfl
        exact bodyPost_ret (v := .tuple #[.agg (pcells ⟨V1, V2, y2 == 1, cut b 13 nA⟩ (.slice (some ⟨g, off + 13, none⟩) (nA - 13) (c - 13))), .int .i64 k, .int .i64 0]) (by simp [results, Try.results12, go_sem, z0, z1, z2, z3, pcells]) rfl (rbig_post PO.out rfl SQ.out hz.b)
theorem rParse_h {w : World} {A : Option Addr} {n c : Nat} {b : List Int} (h : Lies w A b) (hn : b.length = n) (hb : Bytes b) (hl : n ≤ 100000) (hc : n ≤ c) :
    Calls Try.prog 12 #[.slice A n c] w fun e w' => RPost w A b e w' := by
  rcases h with rfl | ⟨g, off, rfl, hr⟩
  · cases hn
    cases A with
    | none => exact rParse_s0 rfl
    | some ad => exact rParse_s0s rfl
  · rcases (show n = 0 ∨ n = 1 ∨ n = 2 ∨ 3 ≤ n by omega) with rfl | rfl | rfl | h4
    · exact rParse_s0s hn
    · exact rParse_s1 hr hb hn hc
    · exact rParse_s2 hr hb hn hc
    · exact rParse_big hr hb hn hc h4 hl
end Go.Proofs.Ytdekdcleeignoaa.Pk
