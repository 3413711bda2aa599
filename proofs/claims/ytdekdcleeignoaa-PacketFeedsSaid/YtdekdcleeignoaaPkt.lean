/-
  Packets: parsed; fewer than four bytes. No condition but those told.
-/
import Derived.Test.YtdekdcleeignoaaPku
set_option linter.unusedVariables false
set_option linter.unusedSimpArgs false
namespace Go.Proofs.Ytdekdcleeignoaa.Pk
open Go.RowKit Go.Proofs.Ytdekdcleeignoaa Go.Proofs.YtdekdcleeignoaaW.PrintWords
attribute [local irreducible] PPost
set_option maxHeartbeats 1000000 in
set_option maxRecDepth 100000 in
theorem Parse_s0 {w : World} {c : Nat} {b : List Int} (hn : b.length = 0) :
    Calls Try.prog 8 #[.slice none 0 c] w fun e w' => PPost w b e w' := by
  have HN := Lib.hid hn
  have mn : min (0 : Int) 3 = 0 := by decide
  have mx : max (0 : Int) 0 = 0 := by decide
  have H0 := Lib.hid ((Hp.nil w).new_blk 25 zcells)
  obtain ⟨gb, hgb⟩ : ∃ gb, w.heap.size = gb := ⟨_, rfl⟩
  rw [hgb] at H0
  clear hn
  go_enter Try.func8, Try.ntmps8
  go_wp2_with fail
  go_loopw [15] (fun u wr => ∃ k : Nat, k ≤ 0 ∧ u = .int .i64 (k : Int) ∧ Fine b k ∧ Hid (Hp w wr [blkA gb 25 zcells])) (fun u _ => 3 - (intOf u).toNat)
  case atStart => exact ⟨0, by omega, rfl, ⟨fun h => absurd h (by decide), fun h => absurd h (by decide), fun h => absurd h (by decide)⟩, H0⟩
  case round =>
    clear H0
    obtain ⟨k, hk, rfl, F, H⟩ := hrel
    have fr := fun i => H.out.blk.free i
    have c0 := H.out.blk.cell (i := 0) rfl
    have c1 := H.out.blk.cell (i := 1) rfl
    have c2 := H.out.blk.cell (i := 2) rfl
    have c3 := H.out.blk.cell (i := 3) rfl
    obtain rfl : k = 0 := by omega
    have OD := Lib.hid (fine_odd (b := b) F (by rw [HN.out]; omega))
    have po := Lib.hid (parse_cut1 OD.out (by rw [HN.out]; decide))
    go_wp2_with fail
    have hz : Hp w ((((wr.setCell ⟨gb, 0, none⟩ (.int .u32 0)).setCell ⟨gb, 1, none⟩ (.int .u32 0)).setCell ⟨gb, 2, none⟩ (.bool false)).setCell ⟨gb, 3, none⟩ (.slice none 0 0)) [blkA gb 25 zcells] := (((H.out.bset 0 (.int .u32 0)).bset 1 (.int .u32 0)).bset 2 (.bool false)).bset 3 (.slice none 0 0)
    generalize (((wr.setCell ⟨gb, 0, none⟩ (.int .u32 0)).setCell ⟨gb, 1, none⟩ (.int .u32 0)).setCell ⟨gb, 2, none⟩ (.bool false)).setCell ⟨gb, 3, none⟩ (.slice none 0 0) = wz at hz ⊢
    have z0 := hz.blk.cell (i := 0) rfl
    have z1 := hz.blk.cell (i := 1) rfl
    have z2 := hz.blk.cell (i := 2) rfl
    have z3 := hz.blk.cell (i := 3) rfl
    exact bodyPost_ret (v := .tuple #[.agg zcells, .int .i64 0, .int .i64 2]) (by simp [results, Try.results8, go_sem, z0, z1, z2, z3, zcells]) rfl (small_post po.out rfl hz.b)
set_option maxHeartbeats 1000000 in
set_option maxRecDepth 100000 in
theorem Parse_s0s {w : World} {ad : Addr} {c : Nat} {b : List Int} (hn : b.length = 0) :
    Calls Try.prog 8 #[.slice (some ad) 0 c] w fun e w' => PPost w b e w' := by
  have HN := Lib.hid hn
  have mn : min (0 : Int) 3 = 0 := by decide
  have mx : max (0 : Int) 0 = 0 := by decide
  have H0 := Lib.hid ((Hp.nil w).new_blk 25 zcells)
  obtain ⟨gb, hgb⟩ : ∃ gb, w.heap.size = gb := ⟨_, rfl⟩
  rw [hgb] at H0
  clear hn
  go_enter Try.func8, Try.ntmps8
  go_wp2_with fail
  go_loopw [15] (fun u wr => ∃ k : Nat, k ≤ 0 ∧ u = .int .i64 (k : Int) ∧ Fine b k ∧ Hid (Hp w wr [blkA gb 25 zcells])) (fun u _ => 3 - (intOf u).toNat)
  case atStart => exact ⟨0, by omega, rfl, ⟨fun h => absurd h (by decide), fun h => absurd h (by decide), fun h => absurd h (by decide)⟩, H0⟩
  case round =>
    clear H0
    obtain ⟨k, hk, rfl, F, H⟩ := hrel
    have fr := fun i => H.out.blk.free i
    have c0 := H.out.blk.cell (i := 0) rfl
    have c1 := H.out.blk.cell (i := 1) rfl
    have c2 := H.out.blk.cell (i := 2) rfl
    have c3 := H.out.blk.cell (i := 3) rfl
    obtain rfl : k = 0 := by omega
    have OD := Lib.hid (fine_odd (b := b) F (by rw [HN.out]; omega))
    have po := Lib.hid (parse_cut1 OD.out (by rw [HN.out]; decide))
    go_wp2_with fail
    have hz : Hp w ((((wr.setCell ⟨gb, 0, none⟩ (.int .u32 0)).setCell ⟨gb, 1, none⟩ (.int .u32 0)).setCell ⟨gb, 2, none⟩ (.bool false)).setCell ⟨gb, 3, none⟩ (.slice none 0 0)) [blkA gb 25 zcells] := (((H.out.bset 0 (.int .u32 0)).bset 1 (.int .u32 0)).bset 2 (.bool false)).bset 3 (.slice none 0 0)
    generalize (((wr.setCell ⟨gb, 0, none⟩ (.int .u32 0)).setCell ⟨gb, 1, none⟩ (.int .u32 0)).setCell ⟨gb, 2, none⟩ (.bool false)).setCell ⟨gb, 3, none⟩ (.slice none 0 0) = wz at hz ⊢
    have z0 := hz.blk.cell (i := 0) rfl
    have z1 := hz.blk.cell (i := 1) rfl
    have z2 := hz.blk.cell (i := 2) rfl
    have z3 := hz.blk.cell (i := 3) rfl
    exact bodyPost_ret (v := .tuple #[.agg zcells, .int .i64 0, .int .i64 2]) (by simp [results, Try.results8, go_sem, z0, z1, z2, z3, zcells]) rfl (small_post po.out rfl hz.b)
set_option maxHeartbeats 1000000 in
set_option maxRecDepth 100000 in
theorem Parse_s1 {w : World} {g off c : Nat} {b : List Int} (hr : Row8 w g off b) (hb : Bytes b) (hn : b.length = 1) (hc : 1 ≤ c) :
    Calls Try.prog 8 #[.slice (some ⟨g, off, none⟩) 1 c] w fun e w' => PPost w b e w' := by
  have n2 : (1 : Int) ≤ (c : Int) := by omega
  have glt := hr.lt (by omega)
  have HN := Lib.hid hn
  have mn : min (1 : Int) 3 = 1 := by decide
  have mx : max (1 : Int) 0 = 1 := by decide
  have x0 := hr 0 (by omega)
  rw [getD_of, Nat.add_zero] at x0
  have b0 := hb _ (List.getElem_mem (show 0 < b.length by omega))
  rw [getD_of] at b0
  obtain ⟨y0, hy0⟩ : ∃ y, b.getD 0 0 = y := ⟨_, rfl⟩
  rw [hy0] at x0 b0
  have Y0 := Lib.hid hy0
  have H0 := Lib.hid ((Hp.nil w).new_blk 25 zcells)
  obtain ⟨gb, hgb⟩ : ∃ gb, w.heap.size = gb := ⟨_, rfl⟩
  rw [hgb] at H0
  clear hn hy0 hr hb
  go_enter Try.func8, Try.ntmps8
  go_wp2_with fail
  go_loopw [15] (fun u wr => ∃ k : Nat, k ≤ 1 ∧ u = .int .i64 (k : Int) ∧ Fine b k ∧ Hid (Hp w wr [blkA gb 25 zcells])) (fun u _ => 3 - (intOf u).toNat)
  case atStart => exact ⟨0, by omega, rfl, ⟨fun h => absurd h (by decide), fun h => absurd h (by decide), fun h => absurd h (by decide)⟩, H0⟩
  case round =>
    clear H0
    obtain ⟨k, hk, rfl, F, H⟩ := hrel
    have d0 : wr.cell? ⟨g, off, none⟩ = some (.int .u8 y0) := by rw [Below.cell H.out.b glt, x0]
    have fr := fun i => H.out.blk.free i
    have c0 := H.out.blk.cell (i := 0) rfl
    have c1 := H.out.blk.cell (i := 1) rfl
    have c2 := H.out.blk.cell (i := 2) rfl
    have c3 := H.out.blk.cell (i := 3) rfl
    rcases (show k = 0 ∨ k = 1 by omega) with rfl | rfl
    · by_cases hx : y0 = 83
      · subst hx
        go_wp2_with fail
        go_roundw
        case rel => exact ⟨1, by omega, by go_num, ⟨fun _ => Y0.out, fun h => absurd h (by decide), fun h => absurd h (by decide)⟩, H⟩
        case measure => simp [intOf]
      · have po := Lib.hid (parse_odd (odd0 (b := b) (by rw [HN.out]; omega) (by rw [Y0.out]; exact hx)))
        have hx1 : (y0 == 83) = false := by rw [beq_eq_false_iff_ne]; exact hx
        have hx2 : (y0 != 83) = true := by rw [bne, hx1]; rfl
        go_wp2_with fail
        have hz : Hp w ((((wr.setCell ⟨gb, 0, none⟩ (.int .u32 0)).setCell ⟨gb, 1, none⟩ (.int .u32 0)).setCell ⟨gb, 2, none⟩ (.bool false)).setCell ⟨gb, 3, none⟩ (.slice none 0 0)) [blkA gb 25 zcells] := (((H.out.bset 0 (.int .u32 0)).bset 1 (.int .u32 0)).bset 2 (.bool false)).bset 3 (.slice none 0 0)
        generalize (((wr.setCell ⟨gb, 0, none⟩ (.int .u32 0)).setCell ⟨gb, 1, none⟩ (.int .u32 0)).setCell ⟨gb, 2, none⟩ (.bool false)).setCell ⟨gb, 3, none⟩ (.slice none 0 0) = wz at hz ⊢
        have z0 := hz.blk.cell (i := 0) rfl
        have z1 := hz.blk.cell (i := 1) rfl
        have z2 := hz.blk.cell (i := 2) rfl
        have z3 := hz.blk.cell (i := 3) rfl
        exact bodyPost_ret (v := .tuple #[.agg zcells, .int .i64 0, .int .i64 3]) (by simp [results, Try.results8, go_sem, z0, z1, z2, z3, zcells]) rfl (small_post po.out rfl hz.b)
    · have OD := Lib.hid (fine_odd (b := b) F (by rw [HN.out]; omega))
      have po := Lib.hid (parse_cut1 OD.out (by rw [HN.out]; decide))
      go_wp2_with fail
      have hz : Hp w ((((wr.setCell ⟨gb, 0, none⟩ (.int .u32 0)).setCell ⟨gb, 1, none⟩ (.int .u32 0)).setCell ⟨gb, 2, none⟩ (.bool false)).setCell ⟨gb, 3, none⟩ (.slice none 0 0)) [blkA gb 25 zcells] := (((H.out.bset 0 (.int .u32 0)).bset 1 (.int .u32 0)).bset 2 (.bool false)).bset 3 (.slice none 0 0)
      generalize (((wr.setCell ⟨gb, 0, none⟩ (.int .u32 0)).setCell ⟨gb, 1, none⟩ (.int .u32 0)).setCell ⟨gb, 2, none⟩ (.bool false)).setCell ⟨gb, 3, none⟩ (.slice none 0 0) = wz at hz ⊢
      have z0 := hz.blk.cell (i := 0) rfl
      have z1 := hz.blk.cell (i := 1) rfl
      have z2 := hz.blk.cell (i := 2) rfl
      have z3 := hz.blk.cell (i := 3) rfl
      exact bodyPost_ret (v := .tuple #[.agg zcells, .int .i64 0, .int .i64 2]) (by simp [results, Try.results8, go_sem, z0, z1, z2, z3, zcells]) rfl (small_post po.out rfl hz.b)
set_option maxHeartbeats 1000000 in
set_option maxRecDepth 100000 in
theorem Parse_s2 {w : World} {g off c : Nat} {b : List Int} (hr : Row8 w g off b) (hb : Bytes b) (hn : b.length = 2) (hc : 2 ≤ c) :
    Calls Try.prog 8 #[.slice (some ⟨g, off, none⟩) 2 c] w fun e w' => PPost w b e w' := by
  have n2 : (2 : Int) ≤ (c : Int) := by omega
  have glt := hr.lt (by omega)
  have HN := Lib.hid hn
  have mn : min (2 : Int) 3 = 2 := by decide
  have mx : max (2 : Int) 0 = 2 := by decide
  have x0 := hr 0 (by omega)
  rw [getD_of, Nat.add_zero] at x0
  have b0 := hb _ (List.getElem_mem (show 0 < b.length by omega))
  rw [getD_of] at b0
  obtain ⟨y0, hy0⟩ : ∃ y, b.getD 0 0 = y := ⟨_, rfl⟩
  rw [hy0] at x0 b0
  have Y0 := Lib.hid hy0
  have x1 := hr 1 (by omega)
  rw [getD_of] at x1
  have b1 := hb _ (List.getElem_mem (show 1 < b.length by omega))
  rw [getD_of] at b1
  obtain ⟨y1, hy1⟩ : ∃ y, b.getD 1 0 = y := ⟨_, rfl⟩
  rw [hy1] at x1 b1
  have Y1 := Lib.hid hy1
  have H0 := Lib.hid ((Hp.nil w).new_blk 25 zcells)
  obtain ⟨gb, hgb⟩ : ∃ gb, w.heap.size = gb := ⟨_, rfl⟩
  rw [hgb] at H0
  clear hn hy0 hy1 hr hb
  go_enter Try.func8, Try.ntmps8
  go_wp2_with fail
  go_loopw [15] (fun u wr => ∃ k : Nat, k ≤ 2 ∧ u = .int .i64 (k : Int) ∧ Fine b k ∧ Hid (Hp w wr [blkA gb 25 zcells])) (fun u _ => 3 - (intOf u).toNat)
  case atStart => exact ⟨0, by omega, rfl, ⟨fun h => absurd h (by decide), fun h => absurd h (by decide), fun h => absurd h (by decide)⟩, H0⟩
  case round =>
    clear H0
    obtain ⟨k, hk, rfl, F, H⟩ := hrel
    have d0 : wr.cell? ⟨g, off, none⟩ = some (.int .u8 y0) := by rw [Below.cell H.out.b glt, x0]
    have d1 : wr.cell? ⟨g, off + 1, none⟩ = some (.int .u8 y1) := by rw [Below.cell H.out.b glt, x1]
    have fr := fun i => H.out.blk.free i
    have c0 := H.out.blk.cell (i := 0) rfl
    have c1 := H.out.blk.cell (i := 1) rfl
    have c2 := H.out.blk.cell (i := 2) rfl
    have c3 := H.out.blk.cell (i := 3) rfl
    rcases (show k = 0 ∨ k = 1 ∨ k = 2 by omega) with rfl | rfl | rfl
    · by_cases hx : y0 = 83
      · subst hx
        go_wp2_with fail
        go_roundw
        case rel => exact ⟨1, by omega, by go_num, ⟨fun _ => Y0.out, fun h => absurd h (by decide), fun h => absurd h (by decide)⟩, H⟩
        case measure => simp [intOf]
      · have po := Lib.hid (parse_odd (odd0 (b := b) (by rw [HN.out]; omega) (by rw [Y0.out]; exact hx)))
        have hx1 : (y0 == 83) = false := by rw [beq_eq_false_iff_ne]; exact hx
        have hx2 : (y0 != 83) = true := by rw [bne, hx1]; rfl
        go_wp2_with fail
        have hz : Hp w ((((wr.setCell ⟨gb, 0, none⟩ (.int .u32 0)).setCell ⟨gb, 1, none⟩ (.int .u32 0)).setCell ⟨gb, 2, none⟩ (.bool false)).setCell ⟨gb, 3, none⟩ (.slice none 0 0)) [blkA gb 25 zcells] := (((H.out.bset 0 (.int .u32 0)).bset 1 (.int .u32 0)).bset 2 (.bool false)).bset 3 (.slice none 0 0)
        generalize (((wr.setCell ⟨gb, 0, none⟩ (.int .u32 0)).setCell ⟨gb, 1, none⟩ (.int .u32 0)).setCell ⟨gb, 2, none⟩ (.bool false)).setCell ⟨gb, 3, none⟩ (.slice none 0 0) = wz at hz ⊢
        have z0 := hz.blk.cell (i := 0) rfl
        have z1 := hz.blk.cell (i := 1) rfl
        have z2 := hz.blk.cell (i := 2) rfl
        have z3 := hz.blk.cell (i := 3) rfl
        exact bodyPost_ret (v := .tuple #[.agg zcells, .int .i64 0, .int .i64 3]) (by simp [results, Try.results8, go_sem, z0, z1, z2, z3, zcells]) rfl (small_post po.out rfl hz.b)
    · have F0 := Lib.hid (F.1 (by decide))
      by_cases hx : y1 = 66
      · subst hx
        go_wp2_with fail
        go_roundw
        case rel => exact ⟨2, by omega, by go_num, ⟨fun _ => F0.out, fun _ => Y1.out, fun h => absurd h (by decide)⟩, H⟩
        case measure => simp [intOf]
      · have po := Lib.hid (parse_odd (odd1 (b := b) (by rw [HN.out]; omega) (by rw [Y1.out]; exact hx)))
        have hx1 : (y1 == 66) = false := by rw [beq_eq_false_iff_ne]; exact hx
        have hx2 : (y1 != 66) = true := by rw [bne, hx1]; rfl
        go_wp2_with fail
        have hz : Hp w ((((wr.setCell ⟨gb, 0, none⟩ (.int .u32 0)).setCell ⟨gb, 1, none⟩ (.int .u32 0)).setCell ⟨gb, 2, none⟩ (.bool false)).setCell ⟨gb, 3, none⟩ (.slice none 0 0)) [blkA gb 25 zcells] := (((H.out.bset 0 (.int .u32 0)).bset 1 (.int .u32 0)).bset 2 (.bool false)).bset 3 (.slice none 0 0)
        generalize (((wr.setCell ⟨gb, 0, none⟩ (.int .u32 0)).setCell ⟨gb, 1, none⟩ (.int .u32 0)).setCell ⟨gb, 2, none⟩ (.bool false)).setCell ⟨gb, 3, none⟩ (.slice none 0 0) = wz at hz ⊢
        have z0 := hz.blk.cell (i := 0) rfl
        have z1 := hz.blk.cell (i := 1) rfl
        have z2 := hz.blk.cell (i := 2) rfl
        have z3 := hz.blk.cell (i := 3) rfl
        exact bodyPost_ret (v := .tuple #[.agg zcells, .int .i64 0, .int .i64 3]) (by simp [results, Try.results8, go_sem, z0, z1, z2, z3, zcells]) rfl (small_post po.out rfl hz.b)
    · have OD := Lib.hid (fine_odd (b := b) F (by rw [HN.out]; omega))
      have po := Lib.hid (parse_cut1 OD.out (by rw [HN.out]; decide))
      go_wp2_with fail
      have hz : Hp w ((((wr.setCell ⟨gb, 0, none⟩ (.int .u32 0)).setCell ⟨gb, 1, none⟩ (.int .u32 0)).setCell ⟨gb, 2, none⟩ (.bool false)).setCell ⟨gb, 3, none⟩ (.slice none 0 0)) [blkA gb 25 zcells] := (((H.out.bset 0 (.int .u32 0)).bset 1 (.int .u32 0)).bset 2 (.bool false)).bset 3 (.slice none 0 0)
      generalize (((wr.setCell ⟨gb, 0, none⟩ (.int .u32 0)).setCell ⟨gb, 1, none⟩ (.int .u32 0)).setCell ⟨gb, 2, none⟩ (.bool false)).setCell ⟨gb, 3, none⟩ (.slice none 0 0) = wz at hz ⊢
      have z0 := hz.blk.cell (i := 0) rfl
      have z1 := hz.blk.cell (i := 1) rfl
      have z2 := hz.blk.cell (i := 2) rfl
      have z3 := hz.blk.cell (i := 3) rfl
      exact bodyPost_ret (v := .tuple #[.agg zcells, .int .i64 0, .int .i64 2]) (by simp [results, Try.results8, go_sem, z0, z1, z2, z3, zcells]) rfl (small_post po.out rfl hz.b)
set_option maxHeartbeats 1000000 in
set_option maxRecDepth 100000 in
theorem Parse_s3 {w : World} {g off c : Nat} {b : List Int} (hr : Row8 w g off b) (hb : Bytes b) (hn : b.length = 3) (hc : 3 ≤ c) :
    Calls Try.prog 8 #[.slice (some ⟨g, off, none⟩) 3 c] w fun e w' => PPost w b e w' := by
  have n2 : (3 : Int) ≤ (c : Int) := by omega
  have glt := hr.lt (by omega)
  have HN := Lib.hid hn
  have mn : min (3 : Int) 3 = 3 := by decide
  have mx : max (3 : Int) 0 = 3 := by decide
  have x0 := hr 0 (by omega)
  rw [getD_of, Nat.add_zero] at x0
  have b0 := hb _ (List.getElem_mem (show 0 < b.length by omega))
  rw [getD_of] at b0
  obtain ⟨y0, hy0⟩ : ∃ y, b.getD 0 0 = y := ⟨_, rfl⟩
  rw [hy0] at x0 b0
  have Y0 := Lib.hid hy0
  have x1 := hr 1 (by omega)
  rw [getD_of] at x1
  have b1 := hb _ (List.getElem_mem (show 1 < b.length by omega))
  rw [getD_of] at b1
  obtain ⟨y1, hy1⟩ : ∃ y, b.getD 1 0 = y := ⟨_, rfl⟩
  rw [hy1] at x1 b1
  have Y1 := Lib.hid hy1
  have x2 := hr 2 (by omega)
  rw [getD_of] at x2
  have b2 := hb _ (List.getElem_mem (show 2 < b.length by omega))
  rw [getD_of] at b2
  obtain ⟨y2, hy2⟩ : ∃ y, b.getD 2 0 = y := ⟨_, rfl⟩
  rw [hy2] at x2 b2
  have Y2 := Lib.hid hy2
  have H0 := Lib.hid ((Hp.nil w).new_blk 25 zcells)
  obtain ⟨gb, hgb⟩ : ∃ gb, w.heap.size = gb := ⟨_, rfl⟩
  rw [hgb] at H0
  clear hn hy0 hy1 hy2 hr hb
  go_enter Try.func8, Try.ntmps8
  go_wp2_with fail
  go_loopw [15] (fun u wr => ∃ k : Nat, k ≤ 3 ∧ u = .int .i64 (k : Int) ∧ Fine b k ∧ Hid (Hp w wr [blkA gb 25 zcells])) (fun u _ => 3 - (intOf u).toNat)
  case atStart => exact ⟨0, by omega, rfl, ⟨fun h => absurd h (by decide), fun h => absurd h (by decide), fun h => absurd h (by decide)⟩, H0⟩
  case round =>
    clear H0
    obtain ⟨k, hk, rfl, F, H⟩ := hrel
    have d0 : wr.cell? ⟨g, off, none⟩ = some (.int .u8 y0) := by rw [Below.cell H.out.b glt, x0]
    have d1 : wr.cell? ⟨g, off + 1, none⟩ = some (.int .u8 y1) := by rw [Below.cell H.out.b glt, x1]
    have d2 : wr.cell? ⟨g, off + 2, none⟩ = some (.int .u8 y2) := by rw [Below.cell H.out.b glt, x2]
    have fr := fun i => H.out.blk.free i
    have c0 := H.out.blk.cell (i := 0) rfl
    have c1 := H.out.blk.cell (i := 1) rfl
    have c2 := H.out.blk.cell (i := 2) rfl
    have c3 := H.out.blk.cell (i := 3) rfl
    rcases (show k = 0 ∨ k = 1 ∨ k = 2 ∨ k = 3 by omega) with rfl | rfl | rfl | rfl
    · by_cases hx : y0 = 83
      · subst hx
        go_wp2_with fail
        go_roundw
        case rel => exact ⟨1, by omega, by go_num, ⟨fun _ => Y0.out, fun h => absurd h (by decide), fun h => absurd h (by decide)⟩, H⟩
        case measure => simp [intOf]
      · have po := Lib.hid (parse_odd (odd0 (b := b) (by rw [HN.out]; omega) (by rw [Y0.out]; exact hx)))
        have hx1 : (y0 == 83) = false := by rw [beq_eq_false_iff_ne]; exact hx
        have hx2 : (y0 != 83) = true := by rw [bne, hx1]; rfl
        go_wp2_with fail
        have hz : Hp w ((((wr.setCell ⟨gb, 0, none⟩ (.int .u32 0)).setCell ⟨gb, 1, none⟩ (.int .u32 0)).setCell ⟨gb, 2, none⟩ (.bool false)).setCell ⟨gb, 3, none⟩ (.slice none 0 0)) [blkA gb 25 zcells] := (((H.out.bset 0 (.int .u32 0)).bset 1 (.int .u32 0)).bset 2 (.bool false)).bset 3 (.slice none 0 0)
        generalize (((wr.setCell ⟨gb, 0, none⟩ (.int .u32 0)).setCell ⟨gb, 1, none⟩ (.int .u32 0)).setCell ⟨gb, 2, none⟩ (.bool false)).setCell ⟨gb, 3, none⟩ (.slice none 0 0) = wz at hz ⊢
        have z0 := hz.blk.cell (i := 0) rfl
        have z1 := hz.blk.cell (i := 1) rfl
        have z2 := hz.blk.cell (i := 2) rfl
        have z3 := hz.blk.cell (i := 3) rfl
        exact bodyPost_ret (v := .tuple #[.agg zcells, .int .i64 0, .int .i64 3]) (by simp [results, Try.results8, go_sem, z0, z1, z2, z3, zcells]) rfl (small_post po.out rfl hz.b)
    · have F0 := Lib.hid (F.1 (by decide))
      by_cases hx : y1 = 66
      · subst hx
        go_wp2_with fail
        go_roundw
        case rel => exact ⟨2, by omega, by go_num, ⟨fun _ => F0.out, fun _ => Y1.out, fun h => absurd h (by decide)⟩, H⟩
        case measure => simp [intOf]
      · have po := Lib.hid (parse_odd (odd1 (b := b) (by rw [HN.out]; omega) (by rw [Y1.out]; exact hx)))
        have hx1 : (y1 == 66) = false := by rw [beq_eq_false_iff_ne]; exact hx
        have hx2 : (y1 != 66) = true := by rw [bne, hx1]; rfl
        go_wp2_with fail
        have hz : Hp w ((((wr.setCell ⟨gb, 0, none⟩ (.int .u32 0)).setCell ⟨gb, 1, none⟩ (.int .u32 0)).setCell ⟨gb, 2, none⟩ (.bool false)).setCell ⟨gb, 3, none⟩ (.slice none 0 0)) [blkA gb 25 zcells] := (((H.out.bset 0 (.int .u32 0)).bset 1 (.int .u32 0)).bset 2 (.bool false)).bset 3 (.slice none 0 0)
        generalize (((wr.setCell ⟨gb, 0, none⟩ (.int .u32 0)).setCell ⟨gb, 1, none⟩ (.int .u32 0)).setCell ⟨gb, 2, none⟩ (.bool false)).setCell ⟨gb, 3, none⟩ (.slice none 0 0) = wz at hz ⊢
        have z0 := hz.blk.cell (i := 0) rfl
        have z1 := hz.blk.cell (i := 1) rfl
        have z2 := hz.blk.cell (i := 2) rfl
        have z3 := hz.blk.cell (i := 3) rfl
        exact bodyPost_ret (v := .tuple #[.agg zcells, .int .i64 0, .int .i64 3]) (by simp [results, Try.results8, go_sem, z0, z1, z2, z3, zcells]) rfl (small_post po.out rfl hz.b)
    · have F0 := Lib.hid (F.1 (by decide))
      have F1 := Lib.hid (F.2.1 (by decide))
      by_cases hx : y2 ≤ 1
      · have hx1 : decide ((1 : Int) < y2) = false := decide_eq_false (by omega)
        go_wp2_with fail
        go_roundw
        case rel => exact ⟨3, by omega, by go_num, ⟨fun _ => F0.out, fun _ => F1.out, fun _ => by rw [Y2.out]; exact hx⟩, H⟩
        case measure => simp [intOf]
      · have po := Lib.hid (parse_odd (odd2 (b := b) (by rw [HN.out]; omega) (by rw [Y2.out]; omega)))
        have hx1 : decide ((1 : Int) < y2) = true := decide_eq_true (by omega)
        go_wp2_with fail
        have hz : Hp w ((((wr.setCell ⟨gb, 0, none⟩ (.int .u32 0)).setCell ⟨gb, 1, none⟩ (.int .u32 0)).setCell ⟨gb, 2, none⟩ (.bool false)).setCell ⟨gb, 3, none⟩ (.slice none 0 0)) [blkA gb 25 zcells] := (((H.out.bset 0 (.int .u32 0)).bset 1 (.int .u32 0)).bset 2 (.bool false)).bset 3 (.slice none 0 0)
        generalize (((wr.setCell ⟨gb, 0, none⟩ (.int .u32 0)).setCell ⟨gb, 1, none⟩ (.int .u32 0)).setCell ⟨gb, 2, none⟩ (.bool false)).setCell ⟨gb, 3, none⟩ (.slice none 0 0) = wz at hz ⊢
        have z0 := hz.blk.cell (i := 0) rfl
        have z1 := hz.blk.cell (i := 1) rfl
        have z2 := hz.blk.cell (i := 2) rfl
        have z3 := hz.blk.cell (i := 3) rfl
        exact bodyPost_ret (v := .tuple #[.agg zcells, .int .i64 0, .int .i64 3]) (by simp [results, Try.results8, go_sem, z0, z1, z2, z3, zcells]) rfl (small_post po.out rfl hz.b)
    · have OD := Lib.hid (fine_odd (b := b) F (by rw [HN.out]; omega))
      have po := Lib.hid (parse_cut1 OD.out (by rw [HN.out]; decide))
      go_wp2_with fail
      have hz : Hp w ((((wr.setCell ⟨gb, 0, none⟩ (.int .u32 0)).setCell ⟨gb, 1, none⟩ (.int .u32 0)).setCell ⟨gb, 2, none⟩ (.bool false)).setCell ⟨gb, 3, none⟩ (.slice none 0 0)) [blkA gb 25 zcells] := (((H.out.bset 0 (.int .u32 0)).bset 1 (.int .u32 0)).bset 2 (.bool false)).bset 3 (.slice none 0 0)
      generalize (((wr.setCell ⟨gb, 0, none⟩ (.int .u32 0)).setCell ⟨gb, 1, none⟩ (.int .u32 0)).setCell ⟨gb, 2, none⟩ (.bool false)).setCell ⟨gb, 3, none⟩ (.slice none 0 0) = wz at hz ⊢
      have z0 := hz.blk.cell (i := 0) rfl
      have z1 := hz.blk.cell (i := 1) rfl
      have z2 := hz.blk.cell (i := 2) rfl
      have z3 := hz.blk.cell (i := 3) rfl
      exact bodyPost_ret (v := .tuple #[.agg zcells, .int .i64 0, .int .i64 2]) (by simp [results, Try.results8, go_sem, z0, z1, z2, z3, zcells]) rfl (small_post po.out rfl hz.b)
/-- Bytes that a slice shows, whatever it points to when it is empty. -/
def Lies (w : World) (A : Option Addr) (b : List Int) : Prop := b = [] ∨ ∃ g off, A = some ⟨g, off, none⟩ ∧ Row8 w g off b
theorem Parse_h {w : World} {A : Option Addr} {n c : Nat} {b : List Int} (h : Lies w A b) (hn : b.length = n) (hb : Bytes b) (hl : n ≤ 100000) (hc : n ≤ c) :
    Calls Try.prog 8 #[.slice A n c] w fun e w' => PPost w b e w' := by
  rcases h with rfl | ⟨g, off, rfl, hr⟩
  · cases hn
    cases A with
    | none => exact Parse_s0 rfl
    | some ad => exact Parse_s0s rfl
  · rcases (show n = 0 ∨ n = 1 ∨ n = 2 ∨ n = 3 ∨ 4 ≤ n by omega) with rfl | rfl | rfl | rfl | h4
    · exact Parse_s0s hn
    · exact Parse_s1 hr hb hn hc
    · exact Parse_s2 hr hb hn hc
    · exact Parse_s3 hr hb hn hc
    · subst hn
      exact Parse_big hr hb hl hc h4
end Go.Proofs.Ytdekdcleeignoaa.Pk
