/-
  Packets: parsed; the program's walk. No condition but those told.
-/
import Derived.Test.YtdekdcleeignoaaPkv
import Derived.Test.YtdekdcleeignoaaPkq
set_option linter.unusedVariables false
set_option linter.unusedSimpArgs false
namespace Go.Proofs.Ytdekdcleeignoaa.Pk
open Go.RowKit Go.Proofs.Ytdekdcleeignoaa Go.Proofs.YtdekdcleeignoaaW.PrintWords

/-- Bytes as they lie. -/
def Row8 (w : World) (g off : Nat) (b : List Int) : Prop := ∀ j (h : j < b.length), w.cell? ⟨g, off + j, none⟩ = some (.int .u8 b[j])
theorem Row8.lt {w : World} {g off : Nat} {b : List Int} (h : Row8 w g off b) (h0 : 0 < b.length) : g < w.heap.size := World.block_lt_of_cell? _ _ (h 0 h0)
theorem Row8.below {w w' : World} {g off : Nat} {b : List Int} (h : Row8 w g off b) (k : Below w.heap.size w w') : Row8 w' g off b := fun j hj => by
  have hc := h j hj
  rw [Below.cell k (World.block_lt_of_cell? _ _ hc), hc]
theorem Row8.cut {w : World} {g off : Nat} {b : List Int} (h : Row8 w g off b) (i j : Nat) : Row8 w g (off + i) (cut b i j) := fun k hk => by
  have hk2 : i + k < b.length := by unfold Pk.cut at hk; simp at hk; omega
  have := h (i + k) hk2
  rw [show off + i + k = off + (i + k) by omega, this]
  have e : (Pk.cut b i j)[k] = b[i + k] := by simp only [Pk.cut, List.getElem_drop, List.getElem_take]
  rw [e]
theorem Row8.src {w : World} {g off : Nat} {b : List Int} (h : Row8 w g off b) (c : Nat) : Src w .u8 (.slice (some ⟨g, off, none⟩) b.length c) b := by
  refine ⟨some ⟨g, off, none⟩, c, rfl, fun _ => ⟨_, rfl, fun j hj => ?_⟩⟩
  have := h j hj
  unfold Addr.add
  split
  · rename_i h0; subst h0; exact this
  · exact this
theorem getD_of {b : List Int} {i : Nat} (h : i < b.length) : b[i] = b.getD i 0 := by rw [List.getD_eq_getElem?_getD, List.getElem?_eq_getElem h]; rfl
theorem get_n {w : World} {b off cap n : Nat} {zs : List Int} (hc : Row8 w b off zs) (hn : zs.length = n) (hb : Bytes zs) (hl : n ≤ 4) (h0 : 0 < n) :
    Calls Try.prog 19 #[.slice (some ⟨b, off, none⟩) n cap] w fun e w' => e = .returned (.int .u32 (val zs)) ∧ Below w.heap.size w w' := by
  subst hn
  exact get_calls hc hb hl h0
theorem Of_n {w : World} {A : Option Addr} {c n : Nat} {xs : List Int} (h : Src w .u8 (.slice A xs.length c) xs) (hn : xs.length = n) (hb : Bytes xs) (hl : n ≤ 100000) (hc : n ≤ c) :
    Calls Try.prog 18 #[.slice A n c] w fun e w' => e = .returned (.int .u32 (crcI xs)) ∧ Below w.heap.size w w' := by
  subst hn
  exact Of_h h hb hl hc
theorem Sl_empty (w : World) (e : TypeId) (k : IntKind) : Sl (w.alloc (.cells #[] e)) e k (.slice (some ⟨w.heap.size, 0, none⟩) 0 0) [] :=
  .inr ⟨w.heap.size, 0, rfl, #[], Blk.new w e #[], Nat.le_refl _, Nat.zero_le _, rfl, fun i h => by cases h⟩
theorem _root_.Go.Proofs.Ytdekdcleeignoaa.Sl.shape {w : World} {e : TypeId} {k : IntKind} {v : Value} {xs : List Int} (h : Sl w e k v xs) : ∃ A n c, v = .slice A n c := by
  rcases h with h | h
  · obtain ⟨rfl, _⟩ := h
    exact ⟨_, _, _, rfl⟩
  · obtain ⟨g, c, rfl, _⟩ := h
    exact ⟨_, _, _, rfl⟩
theorem added_fresh {w w1 : World} {o : Obj} {e : TypeId} {k : IntKind} {v1 : Value} {ys : List Int} (h : Added (w.alloc o) w1 e k (.slice (some ⟨w.heap.size, 0, none⟩) 0 0) v1 ys (w.alloc o).heap.size) :
    Below w.heap.size w w1 ∧ ∀ g, v1.ownBlock = some g → w.heap.size ≤ g := by
  have hs : (w.alloc o).heap.size = w.heap.size + 1 := by simp
  have e0 : (Value.slice (some ⟨w.heap.size, 0, none⟩) 0 0).ownBlock = some w.heap.size := rfl
  have ho := h.only
  refine ⟨((Below.refl _ _).alloc (Nat.le_refl _) o).trans (ho.below (B := w.heap.size) (by rw [hs]; omega) (fun i hi => by rw [e0] at hi; injection hi with hi; omega)), fun g hg => ?_⟩
  rcases h.at_ with h1 | h1
  · rw [h1, e0] at hg; injection hg with hg; omega
  · rw [h1, hs] at hg; injection hg with hg; omega
theorem eql_nil (w : World) (a : Addr) (n c : Nat) : (binOp .eql 23 (.slice (some a) n c) (.slice none 0 0)).run Try.prog w = .ok (.bool false) w := by
  have h : ∀ d : Nat, (Op.equalIn (d + 1) 23 (.slice (some a) n c) (.slice none 0 0)).run Try.prog w = .ok false w := fun d => by
    simp [Op.equalIn, run_underlying Try.underlying23]
  simp only [binOp]
  simp [Op.equal, Op.maxDepth, h 9999]
set_option maxHeartbeats 1000000 in
theorem Clone_h {W w : World} {l : List Ast} (H : Hp W w l) {ad : Addr} {n c : Nat} {xs : List Int} (rd : Src w .u8 (.slice (some ad) n c) xs) (hn : xs.length = n) (hl : xs.length ≤ 100000) :
    Calls Try.prog 20 #[.slice (some ad) n c] w fun e w' => ∃ v, e = .returned v ∧ Hp W w' (slA 5 .u8 v xs :: l) := by
  have HH := Lib.hid H
  have S0 := Lib.hid (Sl_empty w 5 .u8)
  have S1 := Lib.hid (Src.below rd ((Below.refl _ _).alloc (Nat.le_refl _) (.cells #[] 5)))
  have HL := Lib.hid hl
  have hne : ∀ w', (binOp .eql 23 (.slice (some ad) n c) (.slice none 0 0)).run Try.prog w' = .ok (.bool false) w' := fun w' => eql_nil w' ad n c
  clear H rd hl
  go_enter Try.func20, Try.ntmps20
  go_wp2_with (at_builtin; refine wpList_add (.tmp 5) (.tmp 6) 23 5 .u8 0 1 rfl rfl Try.underlying23 info_u8 _ _ [] xs rfl rfl S0.out S1.out (by have := HL.out; simp; omega) (by have := HL.out; simp; omega) ?_
               intro v1 w1 hp
               have bf := added_fresh hp
               have sl1 := hp.sl
               rw [List.nil_append] at sl1
               have h1 := HH.out.add_sl bf.1 sl1 bf.2
               have H1 := Lib.hid h1
               clear hp bf sl1 h1 S0 S1)
  go_ret
  exact ⟨_, rfl, H1.out⟩
/-- A packet's cells. -/
def pcells (p : P) (v : Value) : Array Value := #[.int .u32 p.ep, .int .u32 p.nu, .bool p.wh, v]
def zcells : Array Value := #[.int .u32 0, .int .u32 0, .bool false, .slice none 0 0]
/-- What Parse answers. -/
def PPost (w : World) (b : List Int) (e : Ending) (w' : World) : Prop :=
  (∃ p n v, parse b = (some p, n, 0) ∧ e = .returned (.tuple #[.agg (pcells p v), .int .i64 n, .int .i64 0]) ∧ Hp w w' [slA 5 .u8 v p.pay]) ∨
  (∃ er, parse b = (none, 0, er) ∧ e = .returned (.tuple #[.agg zcells, .int .i64 0, .int .i64 er]) ∧ Below w.heap.size w w')
/-- The first bytes are a packet's. -/
def Fine (b : List Int) (k : Nat) : Prop := (0 < k → b.getD 0 0 = 83) ∧ (1 < k → b.getD 1 0 = 66) ∧ (2 < k → b.getD 2 0 ≤ 1)
theorem fine_odd {b : List Int} {k : Nat} (h : Fine b k) (hk : k = min b.length 3) : odd b = false := by
  obtain ⟨h1, h2, h3⟩ := h
  unfold odd
  simp only [Bool.or_eq_false_iff, Bool.and_eq_false_iff, decide_eq_false_iff_not, bne_eq_false_iff_eq]
  refine ⟨⟨?_, ?_⟩, ?_⟩
  · rcases Nat.lt_or_ge 0 b.length with h | h
    · exact .inr (h1 (by omega))
    · exact .inl (by omega)
  · rcases Nat.lt_or_ge 1 b.length with h | h
    · exact .inr (h2 (by omega))
    · exact .inl (by omega)
  · rcases Nat.lt_or_ge 2 b.length with h | h
    · exact .inr (by have := h3 (by omega); omega)
    · exact .inl (by omega)
theorem odd0 {b : List Int} (h : 0 < b.length) (hx : b.getD 0 0 ≠ 83) : odd b = true := by
  have hy : (b.getD 0 0 != 83) = true := by rw [bne_iff_ne]; exact hx
  unfold odd
  rw [decide_eq_true h, hy]
  simp
theorem odd1 {b : List Int} (h : 1 < b.length) (hx : b.getD 1 0 ≠ 66) : odd b = true := by
  have hy : (b.getD 1 0 != 66) = true := by rw [bne_iff_ne]; exact hx
  unfold odd
  rw [decide_eq_true h, hy]
  simp
theorem odd2 {b : List Int} (h : 2 < b.length) (hx : 1 < b.getD 2 0) : odd b = true := by
  unfold odd
  rw [decide_eq_true h, decide_eq_true hx]
  simp
theorem parse_odd {b : List Int} (h : odd b = true) : parse b = (none, 0, 3) := by unfold parse; rw [if_pos h]
theorem parse_cut1 {b : List Int} (h : odd b = false) (h1 : b.length < 13) : parse b = (none, 0, 2) := by unfold parse; rw [h, if_neg (by decide), if_pos h1]
theorem parse_long {b : List Int} (h : odd b = false) (h1 : ¬ b.length < 13) (h2 : 600 < told b) : parse b = (none, 0, 5) := by unfold parse; rw [h, if_neg (by decide), if_neg h1, if_pos h2]
theorem parse_cut2 {b : List Int} (h : odd b = false) (h1 : ¬ b.length < 13) (h2 : ¬ 600 < told b) (h3 : b.length < 17 + told b) : parse b = (none, 0, 2) := by unfold parse; rw [h, if_neg (by decide), if_neg h1, if_neg h2, if_pos h3]
theorem parse_sum {b : List Int} (h : odd b = false) (h1 : ¬ b.length < 13) (h2 : ¬ 600 < told b) (h3 : ¬ b.length < 17 + told b) (h4 : crcI (cut b 0 (13 + told b)) ≠ val (cut b (13 + told b) (17 + told b))) : parse b = (none, 0, 4) := by unfold parse; rw [h, if_neg (by decide), if_neg h1, if_neg h2, if_neg h3, if_pos h4]
theorem parse_ok {b : List Int} (h : odd b = false) (h1 : ¬ b.length < 13) (h2 : ¬ 600 < told b) (h3 : ¬ b.length < 17 + told b) (h4 : ¬ crcI (cut b 0 (13 + told b)) ≠ val (cut b (13 + told b) (17 + told b))) : parse b = (some (pkt b), 17 + told b, 0) := by unfold parse; rw [h, if_neg (by decide), if_neg h1, if_neg h2, if_neg h3, if_neg h4]
theorem told_eq {b : List Int} (hb : Bytes b) : ((told b : Nat) : Int) = val (cut b 11 13) := by
  unfold told
  have := (val_bd (cut_bytes hb 11 13)).1
  omega
attribute [local irreducible] PPost
theorem small_post {w w' : World} {b : List Int} {e : Ending} {er : Int} (h : parse b = (none, 0, er)) (he : e = .returned (.tuple #[.agg zcells, .int .i64 0, .int .i64 er])) (hB : Below w.heap.size w w') : PPost w b e w' := by
  unfold PPost
  exact .inr ⟨er, h, he, hB⟩
theorem big_post {w w' : World} {b : List Int} {e : Ending} {p : P} {n : Nat} {v : Value} (h : parse b = (some p, n, 0)) (he : e = .returned (.tuple #[.agg (pcells p v), .int .i64 n, .int .i64 0])) (hB : Hp w w' [slA 5 .u8 v p.pay]) : PPost w b e w' := by
  unfold PPost
  exact .inl ⟨p, n, v, h, he, hB⟩
set_option maxHeartbeats 1000000 in
set_option maxRecDepth 100000 in
theorem Parse_big {w : World} {g off c : Nat} {b : List Int} (hr : Row8 w g off b) (hb : Bytes b) (hl : b.length ≤ 100000) (hc : b.length ≤ c) (h3 : 4 ≤ b.length) :
    Calls Try.prog 8 #[.slice (some ⟨g, off, none⟩) b.length c] w fun e w' => PPost w b e w' := by
  obtain ⟨n, hn⟩ : ∃ n, b.length = n := ⟨_, rfl⟩
  rw [hn] at hl hc h3
  have HR := Lib.hid hr
  have HB := Lib.hid hb
  have HN := Lib.hid hn
  have n1 : (3 : Int) < (n : Int) := by omega
  have n4 : ¬ (n : Int) ≤ 3 := by omega
  have mx : max (3 : Int) 0 = 3 := by decide
  have n2 : (3 : Int) ≤ (c : Int) := by omega
  have n3 : 3 ≤ c := by omega
  have glt := hr.lt (by omega)
  rw [hn]
  have x0 := hr 0 (by omega)
  have x1 := hr 1 (by omega)
  have x2 := hr 2 (by omega)
  rw [getD_of, Nat.add_zero] at x0
  rw [getD_of] at x1 x2
  have b0 := hb _ (List.getElem_mem (show 0 < b.length by omega))
  have b1 := hb _ (List.getElem_mem (show 1 < b.length by omega))
  have b2 := hb _ (List.getElem_mem (show 2 < b.length by omega))
  rw [getD_of] at b0 b1 b2
  obtain ⟨y0, hy0⟩ : ∃ y, b.getD 0 0 = y := ⟨_, rfl⟩
  obtain ⟨y1, hy1⟩ : ∃ y, b.getD 1 0 = y := ⟨_, rfl⟩
  obtain ⟨y2, hy2⟩ : ∃ y, b.getD 2 0 = y := ⟨_, rfl⟩
  rw [hy0] at x0 b0
  rw [hy1] at x1 b1
  rw [hy2] at x2 b2
  have Y0 := Lib.hid hy0
  have Y1 := Lib.hid hy1
  have Y2 := Lib.hid hy2
  have H0 := Lib.hid ((Hp.nil w).new_blk 25 zcells)
  obtain ⟨gb, hgb⟩ : ∃ gb, w.heap.size = gb := ⟨_, rfl⟩
  rw [hgb] at H0
  clear hr hb hn hy0 hy1 hy2
  go_enter Try.func8, Try.ntmps8
  go_wp2_with fail
  go_loopw [15] (fun u wr => ∃ k : Nat, k ≤ 3 ∧ u = .int .i64 (k : Int) ∧ Fine b k ∧ Hid (Hp w wr [blkA gb 25 zcells])) (fun u _ => 3 - (intOf u).toNat)
  case atStart => exact ⟨0, by omega, rfl, ⟨fun h => absurd h (by decide), fun h => absurd h (by decide), fun h => absurd h (by decide)⟩, H0⟩
  case round =>
    clear H0
    obtain ⟨k, hk, rfl, F, H⟩ := hrel
    have d0 : wr.cell? ⟨g, off, none⟩ = some (.int .u8 y0) := by rw [Below.cell H.out.b glt, x0]
    have d1 : wr.cell? ⟨g, off + 1, none⟩ = some (.int .u8 y1) := by rw [Below.cell H.out.b glt, x1]
    have d2 : wr.cell? ⟨g, off + 2, none⟩ = some (.int .u8 y2) := by rw [Below.cell H.out.b glt, x2]
    have fr := fun i => H.out.blk.free i
    have c0 := H.out.blk.cell (i := 0) rfl
    have c1 := H.out.blk.cell (i := 1) rfl
    have c2 := H.out.blk.cell (i := 2) rfl
    have c3 := H.out.blk.cell (i := 3) rfl
    rcases (show k = 0 ∨ k = 1 ∨ k = 2 ∨ k = 3 by omega) with rfl | rfl | rfl | rfl
    · by_cases hx : y0 = 83
      · subst hx
        go_wp2_with fail
        go_roundw
        case rel => exact ⟨1, by omega, by go_num, ⟨fun _ => Y0.out, fun h => absurd h (by decide), fun h => absurd h (by decide)⟩, H⟩
        case measure => simp [intOf]
      · have po := Lib.hid (parse_odd (odd0 (b := b) (by rw [HN.out]; omega) (by rw [Y0.out]; exact hx)))
        have hx1 : (y0 == 83) = false := by rw [beq_eq_false_iff_ne]; exact hx
        have hx2 : (y0 != 83) = true := by rw [bne, hx1]; rfl
        go_wp2_with fail
        have hz : Hp w ((((wr.setCell ⟨gb, 0, none⟩ (.int .u32 0)).setCell ⟨gb, 1, none⟩ (.int .u32 0)).setCell ⟨gb, 2, none⟩ (.bool false)).setCell ⟨gb, 3, none⟩ (.slice none 0 0)) [blkA gb 25 zcells] := (((H.out.bset 0 (.int .u32 0)).bset 1 (.int .u32 0)).bset 2 (.bool false)).bset 3 (.slice none 0 0)
        generalize (((wr.setCell ⟨gb, 0, none⟩ (.int .u32 0)).setCell ⟨gb, 1, none⟩ (.int .u32 0)).setCell ⟨gb, 2, none⟩ (.bool false)).setCell ⟨gb, 3, none⟩ (.slice none 0 0) = wz at hz ⊢
        have z0 := hz.blk.cell (i := 0) rfl
        have z1 := hz.blk.cell (i := 1) rfl
        have z2 := hz.blk.cell (i := 2) rfl
        have z3 := hz.blk.cell (i := 3) rfl
        exact bodyPost_ret (v := .tuple #[.agg zcells, .int .i64 0, .int .i64 3]) (by simp [results, Try.results8, go_sem, z0, z1, z2, z3, zcells]) rfl (small_post po.out rfl hz.b)
    · have f0 := F.1 (by decide)
      have F0 := Lib.hid f0
      clear f0
      by_cases hx : y1 = 66
      · subst hx
        go_wp2_with fail
        go_roundw
        case rel => exact ⟨2, by omega, by go_num, ⟨fun _ => F0.out, fun _ => Y1.out, fun h => absurd h (by decide)⟩, H⟩
        case measure => simp [intOf]
      · have po := Lib.hid (parse_odd (odd1 (b := b) (by rw [HN.out]; omega) (by rw [Y1.out]; exact hx)))
        have hx1 : (y1 == 66) = false := by rw [beq_eq_false_iff_ne]; exact hx
        have hx2 : (y1 != 66) = true := by rw [bne, hx1]; rfl
        go_wp2_with fail
        have hz : Hp w ((((wr.setCell ⟨gb, 0, none⟩ (.int .u32 0)).setCell ⟨gb, 1, none⟩ (.int .u32 0)).setCell ⟨gb, 2, none⟩ (.bool false)).setCell ⟨gb, 3, none⟩ (.slice none 0 0)) [blkA gb 25 zcells] := (((H.out.bset 0 (.int .u32 0)).bset 1 (.int .u32 0)).bset 2 (.bool false)).bset 3 (.slice none 0 0)
        generalize (((wr.setCell ⟨gb, 0, none⟩ (.int .u32 0)).setCell ⟨gb, 1, none⟩ (.int .u32 0)).setCell ⟨gb, 2, none⟩ (.bool false)).setCell ⟨gb, 3, none⟩ (.slice none 0 0) = wz at hz ⊢
        have z0 := hz.blk.cell (i := 0) rfl
        have z1 := hz.blk.cell (i := 1) rfl
        have z2 := hz.blk.cell (i := 2) rfl
        have z3 := hz.blk.cell (i := 3) rfl
        exact bodyPost_ret (v := .tuple #[.agg zcells, .int .i64 0, .int .i64 3]) (by simp [results, Try.results8, go_sem, z0, z1, z2, z3, zcells]) rfl (small_post po.out rfl hz.b)
    · have F0 := Lib.hid (F.1 (by decide))
      have F1 := Lib.hid (F.2.1 (by decide))
      by_cases hx : y2 ≤ 1
      · have hx1 : decide ((1 : Int) < y2) = false := decide_eq_false (by omega)
        go_wp2_with fail
        go_roundw
        case rel => exact ⟨3, by omega, by go_num, ⟨fun _ => F0.out, fun _ => F1.out, fun _ => by rw [Y2.out]; exact hx⟩, H⟩
        case measure => simp [intOf]
      · have po := Lib.hid (parse_odd (odd2 (b := b) (by rw [HN.out]; omega) (by rw [Y2.out]; omega)))
        have hx1 : decide ((1 : Int) < y2) = true := decide_eq_true (by omega)
        go_wp2_with fail
        have hz : Hp w ((((wr.setCell ⟨gb, 0, none⟩ (.int .u32 0)).setCell ⟨gb, 1, none⟩ (.int .u32 0)).setCell ⟨gb, 2, none⟩ (.bool false)).setCell ⟨gb, 3, none⟩ (.slice none 0 0)) [blkA gb 25 zcells] := (((H.out.bset 0 (.int .u32 0)).bset 1 (.int .u32 0)).bset 2 (.bool false)).bset 3 (.slice none 0 0)
        generalize (((wr.setCell ⟨gb, 0, none⟩ (.int .u32 0)).setCell ⟨gb, 1, none⟩ (.int .u32 0)).setCell ⟨gb, 2, none⟩ (.bool false)).setCell ⟨gb, 3, none⟩ (.slice none 0 0) = wz at hz ⊢
        have z0 := hz.blk.cell (i := 0) rfl
        have z1 := hz.blk.cell (i := 1) rfl
        have z2 := hz.blk.cell (i := 2) rfl
        have z3 := hz.blk.cell (i := 3) rfl
        exact bodyPost_ret (v := .tuple #[.agg zcells, .int .i64 0, .int .i64 3]) (by simp [results, Try.results8, go_sem, z0, z1, z2, z3, zcells]) rfl (small_post po.out rfl hz.b)
    · have OD := Lib.hid (fine_odd (b := b) F (by rw [HN.out]; omega))
      by_cases h13 : n < 13
      · have po := Lib.hid (parse_cut1 OD.out (by rw [HN.out]; exact h13))
        have e13 : decide ((n : Int) < 13) = true := decide_eq_true (by omega)
        go_wp2_with fail
        have hz : Hp w ((((wr.setCell ⟨gb, 0, none⟩ (.int .u32 0)).setCell ⟨gb, 1, none⟩ (.int .u32 0)).setCell ⟨gb, 2, none⟩ (.bool false)).setCell ⟨gb, 3, none⟩ (.slice none 0 0)) [blkA gb 25 zcells] := (((H.out.bset 0 (.int .u32 0)).bset 1 (.int .u32 0)).bset 2 (.bool false)).bset 3 (.slice none 0 0)
        generalize (((wr.setCell ⟨gb, 0, none⟩ (.int .u32 0)).setCell ⟨gb, 1, none⟩ (.int .u32 0)).setCell ⟨gb, 2, none⟩ (.bool false)).setCell ⟨gb, 3, none⟩ (.slice none 0 0) = wz at hz ⊢
        have z0 := hz.blk.cell (i := 0) rfl
        have z1 := hz.blk.cell (i := 1) rfl
        have z2 := hz.blk.cell (i := 2) rfl
        have z3 := hz.blk.cell (i := 3) rfl
        exact bodyPost_ret (v := .tuple #[.agg zcells, .int .i64 0, .int .i64 2]) (by simp [results, Try.results8, go_sem, z0, z1, z2, z3, zcells]) rfl (small_post po.out rfl hz.b)
      have e13 : decide ((n : Int) < 13) = false := decide_eq_false (by omega)
      have z1 : (11 : Int) ≤ (c : Int) := by omega
      have z2 : ¬ c = 11 := by omega
      have z3 : (13 : Int) ≤ (c : Int) := by omega
      have z4 : 13 ≤ c := by omega
      have z5 : 11 < c := by omega
      have R1 := Lib.hid (HR.out.below H.out.b)
      have TE := told_eq HB.out
      have G1 := Lib.hid (get_n (cap := c - 11) (R1.out.cut 11 13) (n := 2) (by rw [cut_len (by rw [HN.out]; omega)]) (cut_bytes HB.out 11 13) (by decide) (by decide))
      rw [← TE] at G1
      obtain ⟨N, hN⟩ : ∃ N, told b = N := ⟨_, rfl⟩
      rw [hN] at G1
      have HNN := Lib.hid hN
      have nb : N < 65536 := by
        have := (val_bd (cut_bytes HB.out 11 13)).2
        rw [cut_len (by rw [HN.out]; omega), ← TE, hN] at this
        have e : (256 : Int) ^ (13 - 11) = 65536 := by decide
        omega
      clear TE hN fr c0 c1 c2 c3
      go_wp2_with fail
      refine G1.out.mono ?_
      rintro e1 w1 ⟨rfl, b1⟩
      have H1 := Lib.hid (H.out.keep b1)
      obtain ⟨nA, hA⟩ : ∃ nA : Nat, nA = 13 + N := ⟨_, rfl⟩
      obtain ⟨nB, hB⟩ : ∃ nB : Nat, nB = 17 + N := ⟨_, rfl⟩
      have e3 : IntKind.i64.wrap (13 + (N : Int)) = (nA : Int) := by rw [wI64 (by omega) (by omega)]; omega
      have e4 : IntKind.i64.wrap ((nA : Int) + 4) = (nB : Int) := by rw [wI64 (by omega) (by omega)]; omega
      have e5 : IntKind.i64.wrap ((nB : Int) - 4) = (nA : Int) := by rw [wI64 (by omega) (by omega)]; omega
      clear G1 b1 H d0 d1 d2
      have fr := fun i => H1.out.blk.free i
      have c0 := H1.out.blk.cell (i := 0) rfl
      have c1 := H1.out.blk.cell (i := 1) rfl
      have c2 := H1.out.blk.cell (i := 2) rfl
      have c3 := H1.out.blk.cell (i := 3) rfl
      by_cases h600 : 600 < N
      · have po := Lib.hid (parse_long OD.out (by rw [HN.out]; exact h13) (by rw [HNN.out]; exact h600))
        have e6 : decide ((600 : Int) < (N : Int)) = true := decide_eq_true (by omega)
        have HA := Lib.hid hA
        have HBB := Lib.hid hB
        clear hA hB
        go_wp2_with fail
        have hz : Hp w ((((w1.setCell ⟨gb, 0, none⟩ (.int .u32 0)).setCell ⟨gb, 1, none⟩ (.int .u32 0)).setCell ⟨gb, 2, none⟩ (.bool false)).setCell ⟨gb, 3, none⟩ (.slice none 0 0)) [blkA gb 25 zcells] := (((H1.out.bset 0 (.int .u32 0)).bset 1 (.int .u32 0)).bset 2 (.bool false)).bset 3 (.slice none 0 0)
        generalize (((w1.setCell ⟨gb, 0, none⟩ (.int .u32 0)).setCell ⟨gb, 1, none⟩ (.int .u32 0)).setCell ⟨gb, 2, none⟩ (.bool false)).setCell ⟨gb, 3, none⟩ (.slice none 0 0) = wz at hz ⊢
        have z0 := hz.blk.cell (i := 0) rfl
        have z1 := hz.blk.cell (i := 1) rfl
        have z2 := hz.blk.cell (i := 2) rfl
        have z3 := hz.blk.cell (i := 3) rfl
        exact bodyPost_ret (v := .tuple #[.agg zcells, .int .i64 0, .int .i64 5]) (by simp [results, Try.results8, go_sem, z0, z1, z2, z3, zcells]) rfl (small_post po.out rfl hz.b)
      have e6 : decide ((600 : Int) < (N : Int)) = false := decide_eq_false (by omega)
      by_cases h17 : n < nB
      · have po := Lib.hid (parse_cut2 OD.out (by rw [HN.out]; exact h13) (by rw [HNN.out]; exact h600) (by rw [HN.out, HNN.out]; omega))
        have e7 : decide ((n : Int) < (nB : Int)) = true := decide_eq_true (by omega)
        have HA := Lib.hid hA
        have HBB := Lib.hid hB
        clear hA hB
        go_wp2_with fail
        have hz : Hp w ((((w1.setCell ⟨gb, 0, none⟩ (.int .u32 0)).setCell ⟨gb, 1, none⟩ (.int .u32 0)).setCell ⟨gb, 2, none⟩ (.bool false)).setCell ⟨gb, 3, none⟩ (.slice none 0 0)) [blkA gb 25 zcells] := (((H1.out.bset 0 (.int .u32 0)).bset 1 (.int .u32 0)).bset 2 (.bool false)).bset 3 (.slice none 0 0)
        generalize (((w1.setCell ⟨gb, 0, none⟩ (.int .u32 0)).setCell ⟨gb, 1, none⟩ (.int .u32 0)).setCell ⟨gb, 2, none⟩ (.bool false)).setCell ⟨gb, 3, none⟩ (.slice none 0 0) = wz at hz ⊢
        have z0 := hz.blk.cell (i := 0) rfl
        have z1 := hz.blk.cell (i := 1) rfl
        have z2 := hz.blk.cell (i := 2) rfl
        have z3 := hz.blk.cell (i := 3) rfl
        exact bodyPost_ret (v := .tuple #[.agg zcells, .int .i64 0, .int .i64 2]) (by simp [results, Try.results8, go_sem, z0, z1, z2, z3, zcells]) rfl (small_post po.out rfl hz.b)
      have e7 : decide ((n : Int) < (nB : Int)) = false := decide_eq_false (by omega)
      have q1 : (nA : Int) ≤ (c : Int) := by omega
      have q2 : nA ≤ c := by omega
      have q3 : ¬ c = nA := by omega
      have q4 : nA < c := by omega
      have q5 : (nB : Int) ≤ (c : Int) := by omega
      have q6 : nB ≤ c := by omega
      have q7 : (nA : Int) ≤ (nB : Int) := by omega
      have q8 : nA ≤ nB := by omega
      have LA : Hid ((cut b 0 nA).length = nA) := Lib.hid (by rw [cut_len (by rw [HN.out]; omega)]; omega)
      have LB : Hid ((cut b nA nB).length = nB - nA) := Lib.hid (cut_len (by rw [HN.out]; omega))
      have L4 : Hid (nB - nA = 4) := Lib.hid (by omega)
      have SA : Hid (∀ w', Below w.heap.size w w' → Src w' .u8 (.slice (some ⟨g, off, none⟩) (cut b 0 nA).length c) (cut b 0 nA)) := Lib.hid (fun w' hw => ((HR.out.below hw).cut 0 nA).src c)
      have RB : Hid (∀ w', Below w.heap.size w w' → Row8 w' g (off + nA) (cut b nA nB)) := Lib.hid (fun w' hw => (HR.out.below hw).cut nA nB)
      have PE : Hid ((crcI (cut b 0 nA) ≠ val (cut b nA nB) → parse b = (none, 0, 4)) ∧ (¬ crcI (cut b 0 nA) ≠ val (cut b nA nB) → parse b = (some (pkt b), nB, 0))) := Lib.hid (by
        have f1 : nA = 13 + told b := by rw [hA, HNN.out]
        have f2 : nB = 17 + told b := by rw [hB, HNN.out]
        rw [f1, f2]
        exact ⟨parse_sum OD.out (by rw [HN.out]; exact h13) (by rw [HNN.out]; exact h600) (by rw [HN.out, HNN.out]; omega), parse_ok OD.out (by rw [HN.out]; exact h13) (by rw [HNN.out]; exact h600) (by rw [HN.out, HNN.out]; omega)⟩)
      have PL : Hid (cut b 13 (13 + told b) = cut b 13 nA) := Lib.hid (by rw [HNN.out, ← hA])
      have LC : Hid ((cut b 13 nA).length = nA - 13) := Lib.hid (cut_len (by rw [HN.out]; omega))
      have q9 : (13 : Int) ≤ (nA : Int) := by omega
      have q10 : 13 ≤ nA := by omega
      have q11 : ¬ c = 13 := by omega
      have q12 : ¬ c = 3 := by omega
      have q13 : ¬ c = 7 := by omega
      have q14 : (7 : Int) ≤ (c : Int) := by omega
      have q15 : (11 : Int) ≤ (c : Int) := by omega
      have q16 : (3 : Int) ≤ (c : Int) := by omega
      have q17 : 7 ≤ c := by omega
      have q18 : (2 : Int) < (n : Int) := by omega
      have q19 : 2 < n := by omega
      have LN : Hid (n ≤ 100000) := Lib.hid hl
      have HA := Lib.hid hA
      have HBB := Lib.hid hB
      have L10 : Hid (nA ≤ 100000) := Lib.hid (by omega)
      clear hA hB fr c0 c1 c2 c3
      go_wp2_with fail
      refine wp_region_noPanic ?_
      refine wp_region_any (by kernel_rfl) ?_
      try (change wpAny _ _ _ _ _ _ _ (World.drew _))
      refine wpAny_of_held (S := fun w5 => Hp w w5 [blkA gb 25 zcells]) _ _ _ _ ?_
      have hHeld := H1.out.drew
      refine wpAnyH_take (i := 0) (v := ?_) rfl (by kernel_rfl) (by kernel_rfl) (by kernel_rfl) (fun _ _ _ h => h) (Or.inl ⟨by kernel_rfl, ?_⟩) hHeld ?_
      rotate_left
      · intro w hSw
        first | (go_simp; done) | (go_simp; with_reducible rfl)
      try simp only [Act.put, List.getElem_toArray, List.getElem_cons_zero, List.getElem_cons_succ, List.setIfInBounds_toArray, List.set_cons_zero, List.set_cons_succ]
      refine wpAnyH_take (i := 1) (v := ?_) rfl (by kernel_rfl) (by kernel_rfl) (by kernel_rfl) (fun _ _ _ h => h) (Or.inl ⟨by kernel_rfl, ?_⟩) hHeld ?_
      rotate_left
      · intro w hSw
        first | (go_simp; done) | (go_simp; with_reducible rfl)
      try simp only [Act.put, List.getElem_toArray, List.getElem_cons_zero, List.getElem_cons_succ, List.setIfInBounds_toArray, List.set_cons_zero, List.set_cons_succ]
      refine wpAnyH_take (i := 2) (v := ?_) rfl (by kernel_rfl) (by kernel_rfl) (by kernel_rfl) (fun _ _ _ h => h) (Or.inl ⟨by kernel_rfl, ?_⟩) hHeld ?_
      rotate_left
      · intro w hSw
        first | (go_simp; done) | (go_simp; with_reducible rfl)
      try simp only [Act.put, List.getElem_toArray, List.getElem_cons_zero, List.getElem_cons_succ, List.setIfInBounds_toArray, List.set_cons_zero, List.set_cons_succ]
      refine wpAnyH_take (i := 3) (v := ?_) rfl (by kernel_rfl) (by kernel_rfl) (by kernel_rfl) (fun _ _ _ h => h) (Or.inl ⟨by kernel_rfl, ?_⟩) hHeld ?_
      rotate_left
      · intro w hSw
        first | (go_simp; done) | (go_simp; with_reducible rfl)
      try simp only [Act.put, List.getElem_toArray, List.getElem_cons_zero, List.getElem_cons_succ, List.setIfInBounds_toArray, List.set_cons_zero, List.set_cons_succ]
      refine wpAnyH_take (i := 5) (v := ?_) rfl (by kernel_rfl) (by kernel_rfl) (by kernel_rfl) (fun _ _ _ h => h) (Or.inl ⟨by kernel_rfl, ?_⟩) hHeld ?_
      rotate_left
      · intro w hSw
        first | (go_simp; done) | (go_simp; with_reducible rfl)
      try simp only [Act.put, List.getElem_toArray, List.getElem_cons_zero, List.getElem_cons_succ, List.setIfInBounds_toArray, List.set_cons_zero, List.set_cons_succ]
      refine wpAnyH_take (i := 6) (v := ?_) rfl (by kernel_rfl) (by kernel_rfl) (by kernel_rfl) (fun _ _ _ h => h) (Or.inl ⟨by kernel_rfl, ?_⟩) hHeld ?_
      rotate_left
      · intro w hSw
        first | (go_simp; done) | (go_simp; with_reducible rfl)
      try simp only [Act.put, List.getElem_toArray, List.getElem_cons_zero, List.getElem_cons_succ, List.setIfInBounds_toArray, List.set_cons_zero, List.set_cons_succ]
      refine wpAnyH_take (i := 7) (v := ?_) rfl (by kernel_rfl) (by kernel_rfl) (by kernel_rfl) (fun _ _ _ h => h) (Or.inl ⟨by kernel_rfl, ?_⟩) hHeld ?_
      rotate_left
      · intro w hSw
        first | (go_simp; done) | (go_simp; with_reducible rfl)
      try simp only [Act.put, List.getElem_toArray, List.getElem_cons_zero, List.getElem_cons_succ, List.setIfInBounds_toArray, List.set_cons_zero, List.set_cons_succ]
      refine wpAnyH_take (i := 8) (v := ?_) rfl (by kernel_rfl) (by kernel_rfl) (by kernel_rfl) (fun _ _ _ h => h) (Or.inl ⟨by kernel_rfl, ?_⟩) hHeld ?_
      rotate_left
      · intro w hSw
        first | (go_simp; done) | (go_simp; with_reducible rfl)
      try simp only [Act.put, List.getElem_toArray, List.getElem_cons_zero, List.getElem_cons_succ, List.setIfInBounds_toArray, List.set_cons_zero, List.set_cons_succ]
      refine wpAnyH_take (i := 9) (v := ?_) rfl (by kernel_rfl) (by kernel_rfl) (by kernel_rfl) (fun _ _ _ h => h) (Or.inl ⟨by kernel_rfl, ?_⟩) hHeld ?_
      rotate_left
      · intro w hSw
        first | (go_simp; done) | (go_simp; with_reducible rfl)
      try simp only [Act.put, List.getElem_toArray, List.getElem_cons_zero, List.getElem_cons_succ, List.setIfInBounds_toArray, List.set_cons_zero, List.set_cons_succ]
      refine wpAnyH_ready (rs := [4]) (by kernel_rfl) (by simp) ?_
      refine AllReadyH.cons rfl (fun K hK => ?_) AllReadyH.nil
      go_simp
      go_at_call 18
      refine (Of_n (xs := cut b 0 nA) (n := nA) (SA.out _ hHeld.b) LA.out (cut_bytes HB.out _ _) L10.out q2).mono ?_
      rintro e8 w8 ⟨rfl, b8⟩
      have H4 := Lib.hid (hHeld.keep b8)
      clear b8
      go_simp
      refine hK.out _ _ (H4.out) (fun hHeld => ?_)
      clear hK K
      try simp only [Act.put, List.getElem_toArray, List.getElem_cons_zero, List.getElem_cons_succ, List.setIfInBounds_toArray, List.set_cons_zero, List.set_cons_succ]
      refine wpAnyH_ready (rs := [10]) (by kernel_rfl) (by simp) ?_
      refine AllReadyH.cons rfl (fun K hK => ?_) AllReadyH.nil
      go_simp
      go_at_call 19
      refine (get_n (zs := cut b nA nB) (n := nB - nA) (RB.out _ hHeld.b) LB.out (cut_bytes HB.out _ _) (by rw [L4.out]; decide) (by rw [L4.out]; decide)).mono ?_
      rintro e9 w9 ⟨rfl, b9⟩
      have H5 := Lib.hid (hHeld.keep b9)
      clear b9
      go_simp
      refine hK.out _ _ (H5.out) (fun hHeld => ?_)
      clear hK K
      try simp only [Act.put, List.getElem_toArray, List.getElem_cons_zero, List.getElem_cons_succ, List.setIfInBounds_toArray, List.set_cons_zero, List.set_cons_succ]
      refine wpAnyH_take (i := 11) (v := ?_) rfl (by kernel_rfl) (by kernel_rfl) (by kernel_rfl) (fun _ _ _ h => h) (Or.inl ⟨by kernel_rfl, ?_⟩) hHeld ?_
      rotate_left
      · intro w hSw
        first | (go_simp; done) | (go_simp; with_reducible rfl)
      try simp only [Act.put, List.getElem_toArray, List.getElem_cons_zero, List.getElem_cons_succ, List.setIfInBounds_toArray, List.set_cons_zero, List.set_cons_succ]
      refine wpAnyH_take (i := 12) (v := ?_) rfl (by kernel_rfl) (by kernel_rfl) (by kernel_rfl) (fun _ _ _ h => h) (Or.inl ⟨by kernel_rfl, ?_⟩) hHeld ?_
      rotate_left
      · intro w hSw
        first | (go_simp; done) | (go_simp; with_reducible rfl)
      try simp only [Act.put, List.getElem_toArray, List.getElem_cons_zero, List.getElem_cons_succ, List.setIfInBounds_toArray, List.set_cons_zero, List.set_cons_succ]
      refine wpAnyH_done (by kernel_rfl) ?_ _
      refine NoPanic.normal ?_
      have E6 := PE.out
      clear PE
      generalize crcI (cut b 0 nA) = X at E6 ⊢
      generalize val (cut b nA nB) = Y at E6 ⊢
      have E7 := Lib.hid E6
      clear E6
      by_cases hx : X = Y
      rotate_left
      · have po := Lib.hid (E7.out.1 hx)
        have hx1 : (X == Y) = false := by rw [beq_eq_false_iff_ne]; exact hx
        have hx2 : (X != Y) = true := by rw [bne, hx1]; rfl
        have fr := fun i => H5.out.blk.free i
        have c0 := H5.out.blk.cell (i := 0) rfl
        have c1 := H5.out.blk.cell (i := 1) rfl
        have c2 := H5.out.blk.cell (i := 2) rfl
        have c3 := H5.out.blk.cell (i := 3) rfl
        go_wp2_with fail
        have hz : Hp w ((((w9.setCell ⟨gb, 0, none⟩ (.int .u32 0)).setCell ⟨gb, 1, none⟩ (.int .u32 0)).setCell ⟨gb, 2, none⟩ (.bool false)).setCell ⟨gb, 3, none⟩ (.slice none 0 0)) [blkA gb 25 zcells] := (((H5.out.bset 0 (.int .u32 0)).bset 1 (.int .u32 0)).bset 2 (.bool false)).bset 3 (.slice none 0 0)
        generalize (((w9.setCell ⟨gb, 0, none⟩ (.int .u32 0)).setCell ⟨gb, 1, none⟩ (.int .u32 0)).setCell ⟨gb, 2, none⟩ (.bool false)).setCell ⟨gb, 3, none⟩ (.slice none 0 0) = wz at hz ⊢
        have z0 := hz.blk.cell (i := 0) rfl
        have z1 := hz.blk.cell (i := 1) rfl
        have z2 := hz.blk.cell (i := 2) rfl
        have z3 := hz.blk.cell (i := 3) rfl
        exact bodyPost_ret (v := .tuple #[.agg zcells, .int .i64 0, .int .i64 4]) (by simp [results, Try.results8, go_sem, z0, z1, z2, z3, zcells]) rfl (small_post po.out rfl hz.b)
      have po := Lib.hid (E7.out.2 (fun h => h hx))
      subst hx
      have hx2 : (X != X) = false := by simp
      clear E7
      have RC : Hid (∀ w', Below w.heap.size w w' → Row8 w' g (off + 3) (cut b 3 7)) := Lib.hid (fun w' hw => (HR.out.below hw).cut 3 7)
      have RD : Hid (∀ w', Below w.heap.size w w' → Row8 w' g (off + 7) (cut b 7 11)) := Lib.hid (fun w' hw => (HR.out.below hw).cut 7 11)
      have SP : Hid (∀ w', Below w.heap.size w w' → Src w' .u8 (.slice (some ⟨g, off + 13, none⟩) (nA - 13) (c - 13)) (cut b 13 nA)) := Lib.hid (fun w' hw => by
        have h := ((HR.out.below hw).cut 13 nA).src (c - 13)
        rw [LC.out] at h
        exact h)
      have L37 : Hid ((cut b 3 7).length = 4) := Lib.hid (by rw [cut_len (by rw [HN.out]; omega)])
      have L711 : Hid ((cut b 7 11).length = 4) := Lib.hid (by rw [cut_len (by rw [HN.out]; omega)])
      have L1000 : Hid ((cut b 13 nA).length ≤ 100000) := Lib.hid (by rw [LC.out]; have := L10.out; omega)
      have PK : Hid (pkt b = ⟨val (cut b 3 7), val (cut b 7 11), b.getD 2 0 == 1, cut b 13 nA⟩) := Lib.hid (by unfold pkt; rw [PL.out])
      rw [PK.out, Y2.out] at po
      clear PK PL
      obtain ⟨V1, hV1⟩ : ∃ V, val (cut b 3 7) = V := ⟨_, rfl⟩
      obtain ⟨V2, hV2⟩ : ∃ V, val (cut b 7 11) = V := ⟨_, rfl⟩
      have G2 : Hid (∀ w', Below w.heap.size w w' → Calls Try.prog 19 #[.slice (some ⟨g, off + 3, none⟩) 4 (c - 3)] w' fun e w'' => e = .returned (.int .u32 V1) ∧ Below w'.heap.size w' w'') := Lib.hid (fun w' hw => by rw [← hV1]; exact get_n (zs := cut b 3 7) (n := 4) (RC.out _ hw) L37.out (cut_bytes HB.out _ _) (by decide) (by decide))
      have G3 : Hid (∀ w', Below w.heap.size w w' → Calls Try.prog 19 #[.slice (some ⟨g, off + 7, none⟩) 4 (c - 7)] w' fun e w'' => e = .returned (.int .u32 V2) ∧ Below w'.heap.size w' w'') := Lib.hid (fun w' hw => by rw [← hV2]; exact get_n (zs := cut b 7 11) (n := 4) (RD.out _ hw) L711.out (cut_bytes HB.out _ _) (by decide) (by decide))
      rw [hV1, hV2] at po
      clear hV1 hV2
      go_wp2_with fail
      refine wp_region_noPanic ?_
      refine wp_region_any (by kernel_rfl) ?_
      try (change wpAny _ _ _ _ _ _ _ (World.drew _))
      refine wpAny_of_held (S := fun w5 => Below w.heap.size w w5) _ _ _ _ ?_
      have hHeld := H5.out.drew.b
      refine wpAnyH_take (i := 0) (v := ?_) rfl (by kernel_rfl) (by kernel_rfl) (by kernel_rfl) (fun _ _ _ h => h) (Or.inl ⟨by kernel_rfl, ?_⟩) hHeld ?_
      rotate_left
      · intro w hSw
        first | (go_simp; done) | (go_simp; with_reducible rfl)
      try simp only [Act.put, List.getElem_toArray, List.getElem_cons_zero, List.getElem_cons_succ, List.setIfInBounds_toArray, List.set_cons_zero, List.set_cons_succ]
      refine wpAnyH_take (i := 1) (v := ?_) rfl (by kernel_rfl) (by kernel_rfl) (by kernel_rfl) (fun _ _ _ h => h) (Or.inl ⟨by kernel_rfl, ?_⟩) hHeld ?_
      rotate_left
      · intro w hSw
        first | (go_simp; done) | (go_simp; with_reducible rfl)
      try simp only [Act.put, List.getElem_toArray, List.getElem_cons_zero, List.getElem_cons_succ, List.setIfInBounds_toArray, List.set_cons_zero, List.set_cons_succ]
      refine wpAnyH_take (i := 3) (v := ?_) rfl (by kernel_rfl) (by kernel_rfl) (by kernel_rfl) (fun _ _ _ h => h) (Or.inl ⟨by kernel_rfl, ?_⟩) hHeld ?_
      rotate_left
      · intro w hSw
        first | (go_simp; done) | (go_simp; with_reducible rfl)
      try simp only [Act.put, List.getElem_toArray, List.getElem_cons_zero, List.getElem_cons_succ, List.setIfInBounds_toArray, List.set_cons_zero, List.set_cons_succ]
      refine wpAnyH_take (i := 4) (v := ?_) rfl (by kernel_rfl) (by kernel_rfl) (by kernel_rfl) (fun _ _ _ h => h) (Or.inl ⟨by kernel_rfl, ?_⟩) hHeld ?_
      rotate_left
      · intro w hSw
        first | (go_simp; done) | (go_simp; with_reducible rfl)
      try simp only [Act.put, List.getElem_toArray, List.getElem_cons_zero, List.getElem_cons_succ, List.setIfInBounds_toArray, List.set_cons_zero, List.set_cons_succ]
      refine wpAnyH_take (i := 6) (v := ?_) rfl (by kernel_rfl) (by kernel_rfl) (by kernel_rfl) (fun _ _ _ h => h) (Or.inl ⟨by kernel_rfl, ?_⟩) hHeld ?_
      rotate_left
      · intro w hSw
        first | (go_simp; done) | (go_simp; with_reducible rfl)
      try simp only [Act.put, List.getElem_toArray, List.getElem_cons_zero, List.getElem_cons_succ, List.setIfInBounds_toArray, List.set_cons_zero, List.set_cons_succ]
      refine wpAnyH_take (i := 7) (v := ?_) rfl (by kernel_rfl) (by kernel_rfl) (by kernel_rfl) (fun _ _ _ h => h) (Or.inl ⟨by kernel_rfl, ?_⟩) hHeld ?_
      rotate_left
      · intro w hSw
        first | (go_simp; done) | (go_simp; with_reducible rfl)
      try simp only [Act.put, List.getElem_toArray, List.getElem_cons_zero, List.getElem_cons_succ, List.setIfInBounds_toArray, List.set_cons_zero, List.set_cons_succ]
      refine wpAnyH_take (i := 8) (v := ?_) rfl (by kernel_rfl) (by kernel_rfl) (by kernel_rfl) (fun _ _ _ h => h) (Or.inl ⟨by kernel_rfl, ?_⟩) hHeld ?_
      rotate_left
      · intro w hSw
        have d2 := (Below.cell hSw glt).trans x2
        first | (go_simp; done) | (go_simp; with_reducible rfl)
      try simp only [Act.put, List.getElem_toArray, List.getElem_cons_zero, List.getElem_cons_succ, List.setIfInBounds_toArray, List.set_cons_zero, List.set_cons_succ]
      refine wpAnyH_take (i := 9) (v := ?_) rfl (by kernel_rfl) (by kernel_rfl) (by kernel_rfl) (fun _ _ _ h => h) (Or.inl ⟨by kernel_rfl, ?_⟩) hHeld ?_
      rotate_left
      · intro w hSw
        first | (go_simp; done) | (go_simp; with_reducible rfl)
      try simp only [Act.put, List.getElem_toArray, List.getElem_cons_zero, List.getElem_cons_succ, List.setIfInBounds_toArray, List.set_cons_zero, List.set_cons_succ]
      refine wpAnyH_take (i := 10) (v := ?_) rfl (by kernel_rfl) (by kernel_rfl) (by kernel_rfl) (fun _ _ _ h => h) (Or.inl ⟨by kernel_rfl, ?_⟩) hHeld ?_
      rotate_left
      · intro w hSw
        first | (go_simp; done) | (go_simp; with_reducible rfl)
      try simp only [Act.put, List.getElem_toArray, List.getElem_cons_zero, List.getElem_cons_succ, List.setIfInBounds_toArray, List.set_cons_zero, List.set_cons_succ]
      refine wpAnyH_take (i := 11) (v := ?_) rfl (by kernel_rfl) (by kernel_rfl) (by kernel_rfl) (fun _ _ _ h => h) (Or.inl ⟨by kernel_rfl, ?_⟩) hHeld ?_
      rotate_left
      · intro w hSw
        first | (go_simp; done) | (go_simp; with_reducible rfl)
      try simp only [Act.put, List.getElem_toArray, List.getElem_cons_zero, List.getElem_cons_succ, List.setIfInBounds_toArray, List.set_cons_zero, List.set_cons_succ]
      refine wpAnyH_take (i := 12) (v := ?_) rfl (by kernel_rfl) (by kernel_rfl) (by kernel_rfl) (fun _ _ _ h => h) (Or.inl ⟨by kernel_rfl, ?_⟩) hHeld ?_
      rotate_left
      · intro w hSw
        first | (go_simp; done) | (go_simp; with_reducible rfl)
      try simp only [Act.put, List.getElem_toArray, List.getElem_cons_zero, List.getElem_cons_succ, List.setIfInBounds_toArray, List.set_cons_zero, List.set_cons_succ]
      refine wpAnyH_take (i := 13) (v := ?_) rfl (by kernel_rfl) (by kernel_rfl) (by kernel_rfl) (fun _ _ _ h => h) (Or.inl ⟨by kernel_rfl, ?_⟩) hHeld ?_
      rotate_left
      · intro w hSw
        first | (go_simp; done) | (go_simp; with_reducible rfl)
      try simp only [Act.put, List.getElem_toArray, List.getElem_cons_zero, List.getElem_cons_succ, List.setIfInBounds_toArray, List.set_cons_zero, List.set_cons_succ]
      refine wpAnyH_take (i := 16) (v := ?_) rfl (by kernel_rfl) (by kernel_rfl) (by kernel_rfl) (fun _ _ _ h => h) (Or.inl ⟨by kernel_rfl, ?_⟩) hHeld ?_
      rotate_left
      · intro w hSw
        first | (go_simp; done) | (go_simp; with_reducible rfl)
      try simp only [Act.put, List.getElem_toArray, List.getElem_cons_zero, List.getElem_cons_succ, List.setIfInBounds_toArray, List.set_cons_zero, List.set_cons_succ]
      refine wpAnyH_ready (rs := [2]) (by kernel_rfl) (by simp) ?_
      refine AllReadyH.cons rfl (fun K hK => ?_) AllReadyH.nil
      go_simp
      go_at_call 19
      refine (G2.out _ hHeld).mono ?_
      rintro ea wa ⟨rfl, ba⟩
      have H6 := Lib.hid ((H5.out.drew).keep ba)
      clear ba
      go_simp
      refine hK.out _ _ (H6.out.b) (fun hHeld => ?_)
      clear hK K
      try simp only [Act.put, List.getElem_toArray, List.getElem_cons_zero, List.getElem_cons_succ, List.setIfInBounds_toArray, List.set_cons_zero, List.set_cons_succ]
      refine wpAnyH_ready (rs := [5]) (by kernel_rfl) (by simp) ?_
      refine AllReadyH.cons rfl (fun K hK => ?_) AllReadyH.nil
      go_simp
      go_at_call 19
      refine (G3.out _ hHeld).mono ?_
      rintro eb wb ⟨rfl, bb⟩
      have H7 := Lib.hid (H6.out.keep bb)
      clear bb
      go_simp
      refine hK.out _ _ (H7.out.b) (fun hHeld => ?_)
      clear hK K
      try simp only [Act.put, List.getElem_toArray, List.getElem_cons_zero, List.getElem_cons_succ, List.setIfInBounds_toArray, List.set_cons_zero, List.set_cons_succ]
      refine wpAnyH_ready (rs := [14]) (by kernel_rfl) (by simp) ?_
      refine AllReadyH.cons rfl (fun K hK => ?_) AllReadyH.nil
      go_simp
      go_at_call 20
      refine (Clone_h (n := nA - 13) (xs := cut b 13 nA) H7.out (SP.out _ hHeld) LC.out L1000.out).mono ?_
      rintro ec wc ⟨vc, rfl, hc⟩
      obtain ⟨vA, vn, vm, hvc⟩ := hc.sl.shape
      subst hvc
      have H8 := Lib.hid hc.swap
      clear hc
      have fr := fun i => H8.out.blk.free i
      have c0 := H8.out.blk.cell (i := 0) rfl
      have c1 := H8.out.blk.cell (i := 1) rfl
      have c2 := H8.out.blk.cell (i := 2) rfl
      have c3 := H8.out.blk.cell (i := 3) rfl
      go_simp
      refine hK.out _ _ (H8.out.b) (fun hHeld => ?_)
      clear hK K
      try simp only [Act.put, List.getElem_toArray, List.getElem_cons_zero, List.getElem_cons_succ, List.setIfInBounds_toArray, List.set_cons_zero, List.set_cons_succ]
      refine wpAnyH_take (i := 15) (v := ?_) rfl (by kernel_rfl) (by kernel_rfl) (by kernel_rfl) (fun _ _ _ h => h) (Or.inl ⟨by kernel_rfl, ?_⟩) hHeld ?_
      rotate_left
      · intro w hSw
        first | (go_simp; done) | (go_simp; with_reducible rfl)
      try simp only [Act.put, List.getElem_toArray, List.getElem_cons_zero, List.getElem_cons_succ, List.setIfInBounds_toArray, List.set_cons_zero, List.set_cons_succ]
      refine wpAnyH_ready (rs := [17]) (by kernel_rfl) (by simp) ?_
      refine AllReadyH.cons rfl (fun K hK => ?_) AllReadyH.nil
      go_simp
      have H9 := Lib.hid ((((H8.out.bset 0 (.int .u32 V1)).bset 1 (.int .u32 V2)).bset 2 (.bool (y2 == 1))).bset 3 (.slice vA vn vm))
      go_simp
      refine hK.out _ _ (H9.out.b) (fun hHeld => ?_)
      clear hK K
      try simp only [Act.put, List.getElem_toArray, List.getElem_cons_zero, List.getElem_cons_succ, List.setIfInBounds_toArray, List.set_cons_zero, List.set_cons_succ]
      refine wpAnyH_take (i := 18) (v := ?_) rfl (by kernel_rfl) (by kernel_rfl) (by kernel_rfl) (fun _ _ _ h => h) (Or.inl ⟨by kernel_rfl, ?_⟩) hHeld ?_
      rotate_left
      · intro w hSw
        first | (go_simp; done) | (go_simp; with_reducible rfl)
      try simp only [Act.put, List.getElem_toArray, List.getElem_cons_zero, List.getElem_cons_succ, List.setIfInBounds_toArray, List.set_cons_zero, List.set_cons_succ]
      refine wpAnyH_take (i := 19) (v := ?_) rfl (by kernel_rfl) (by kernel_rfl) (by kernel_rfl) (fun _ _ _ h => h) (Or.inl ⟨by kernel_rfl, ?_⟩) hHeld ?_
      rotate_left
      · intro w hSw
        first | (go_simp; done) | (go_simp; with_reducible rfl)
      try simp only [Act.put, List.getElem_toArray, List.getElem_cons_zero, List.getElem_cons_succ, List.setIfInBounds_toArray, List.set_cons_zero, List.set_cons_succ]
      refine wpAnyH_done (by kernel_rfl) ?_ _
      refine NoPanic.normal ?_
      have hz := H9.out
      clear H9 H8 fr c0 c1 c2 c3
      generalize (((wc.setCell ⟨gb, 0, none⟩ (.int .u32 V1)).setCell ⟨gb, 1, none⟩ (.int .u32 V2)).setCell ⟨gb, 2, none⟩ (.bool (y2 == 1))).setCell ⟨gb, 3, none⟩ (.slice vA vn vm) = wz at hz hHeld ⊢
      go_wp2_with fail
      have z0 : wz.cell? ⟨gb, 0, none⟩ = some (.int .u32 V1) := hz.blk.cell (i := 0) rfl
      have z1 : wz.cell? ⟨gb, 1, none⟩ = some (.int .u32 V2) := hz.blk.cell (i := 1) rfl
      have z2 : wz.cell? ⟨gb, 2, none⟩ = some (.bool (y2 == 1)) := hz.blk.cell (i := 2) rfl
      have z3 : wz.cell? ⟨gb, 3, none⟩ = some (.slice vA vn vm) := hz.blk.cell (i := 3) rfl
      exact bodyPost_ret (v := .tuple #[.agg (pcells ⟨V1, V2, y2 == 1, cut b 13 nA⟩ (.slice vA vn vm)), .int .i64 nB, .int .i64 0]) (by simp [results, Try.results8, go_sem, z0, z1, z2, z3, pcells]) rfl (big_post po.out rfl hz.drop)
end Go.Proofs.Ytdekdcleeignoaa.Pk
