/- Texts of this session, merged. -/
import Derived.Test.YtngldpeapcbbpaaMov2
import Derived.Laws.CopyOwn
import Derived.Deep.Slices
import Derived.Deep.Fields
import Derived.ChangeSame
import Derived.ChangeOld
import Derived.RowKit
import Derived.OpenShut
import Derived.Test.YtngldpeapcbbpaaProg
/-
  Overlap: the lines of a frame; the program's walk. No condition but those told.
-/
set_option linter.unusedVariables false
set_option linter.unusedSimpArgs false
namespace Go.Proofs.Ytngldpeapcbbpaa.Lap
open Go.RowKit Go.Proofs.Ytngldpeapcbbpaa Go.Proofs.Ytngldpeapcbbpaa.Bnd Go.Proofs.Ytngldpeapcbbpaa.Art Go.Proofs.YtngldpeapcbbpaaW.PrintWords

attribute [local irreducible] cosv wgt qt QT risev
/-- A slice that owns its block and is not empty lies at its block's beginning. -/
theorem Sl_some {w : World} {e : TypeId} {k : IntKind} {v : Value} {xs : List Int} (h : Sl w e k v xs) (hn : 0 < xs.length) : ∃ g cap, v = .slice (some ⟨g, 0, none⟩) xs.length cap ∧ RowI w e k g cap xs := by
  rcases h with ⟨rfl, rfl⟩ | ⟨g, cap, rfl, h⟩
  · simp at hn
  · exact ⟨g, cap, rfl, h⟩
theorem made_vals (n : Nat) : madeCells #[.int .i32 0] n = vals .i32 (List.replicate n 0) := by
  apply Array.ext'
  simp only [madeCells, vals, Array.toList_map, Array.toList_range, List.map_replicate]
  rw [show (fun x : Nat => (#[Value.int .i32 0] : Array Value)[x % (#[Value.int .i32 0] : Array Value).size]!) = fun _ => Value.int .i32 0 from by funext x; simp [Nat.mod_one], List.map_const', List.length_range]
/-- Samples, each sixteen times. -/
def fine16 (pcm : List Int) : List Int := pcm.map fun x => x * 16
theorem Src_drop {w : World} {e : TypeId} {k : IntKind} {g cap : Nat} {xs : List Int} (h : RowI w e k g cap xs) (n c : Nat) {m : Nat} (hn : xs.length = n + m) : Src w k (.slice (some ⟨g, n, none⟩) m c) (xs.drop n) := by
  refine ⟨some ⟨g, n, none⟩, c, by rw [List.length_drop, hn, Nat.add_sub_cancel_left], fun _ => ⟨_, rfl, fun j hj => ?_⟩⟩
  have hjl : n + j < xs.length := by rw [List.length_drop] at hj; omega
  have := h.cell (i := n + j) hjl
  rw [List.getElem_drop]
  unfold Addr.add
  split
  · rename_i h0
    subst h0
    exact this
  · exact this
theorem Src_sub {w : World} {e : TypeId} {k : IntKind} {g : Nat} {xs : List Int} {v : Value} (h : Sl w e k v xs) {c8 len : Nat} (hv : v = .slice (some ⟨g, 0, none⟩) len c8) (n c m : Nat) (hn : n + m ≤ xs.length) (hm : 0 < m) : Src w k (.slice (some ⟨g, n, none⟩) m c) ((xs.drop n).take m) := by
  obtain ⟨g', cap', e1, hr⟩ := Sl_some h (by omega)
  rw [hv] at e1
  injection e1 with e1 e2 e3
  injection e1 with e1
  injection e1 with e1
  subst e1
  have ll : ((xs.drop n).take m).length = m := by rw [List.length_take, List.length_drop]; omega
  refine ⟨some ⟨g, n, none⟩, c, by rw [ll], fun _ => ⟨_, rfl, fun j hj => ?_⟩⟩
  have hjl : n + j < xs.length := by rw [ll] at hj; omega
  have := hr.cell (i := n + j) hjl
  rw [List.getElem_take, List.getElem_drop]
  unfold Addr.add
  split
  · rename_i h0
    subst h0
    exact this
  · exact this
theorem sub_bd {B : Int} (hB : 0 ≤ B) {xs : List Int} (h1 : ∀ j, -B ≤ xs.getD j 0 ∧ xs.getD j 0 ≤ B) (n m j : Nat) : -B ≤ ((xs.drop n).take m).getD j 0 ∧ ((xs.drop n).take m).getD j 0 ≤ B := by
  rw [List.getD_eq_getElem?_getD, List.getElem?_take]
  split
  · rw [List.getElem?_drop, ← List.getD_eq_getElem?_getD]
    exact h1 _
  · simp; omega
theorem within_shape' {X : List Int} (h : ∀ j, -524288 ≤ X.getD j 0 ∧ X.getD j 0 ≤ 524288) : within 1048576 (shapev X) = true := by
  unfold within
  rw [List.all_eq_true]
  intro y hy
  unfold shapev at hy
  obtain ⟨i, _, rfl⟩ := List.mem_map.1 hy
  have := shape_bd (B := 524288) (by decide) h i
  simp
  omega
theorem app_bd {B : Int} {xs ys : List Int} (h1 : ∀ j, -B ≤ xs.getD j 0 ∧ xs.getD j 0 ≤ B) (h2 : ∀ j, -B ≤ ys.getD j 0 ∧ ys.getD j 0 ≤ B) (j : Nat) : -B ≤ (xs ++ ys).getD j 0 ∧ (xs ++ ys).getD j 0 ≤ B := by
  by_cases hj : j < xs.length
  · rw [List.getD_eq_getElem?_getD, List.getElem?_append_left hj, ← List.getD_eq_getElem?_getD]
    exact h1 j
  · rw [List.getD_eq_getElem?_getD, List.getElem?_append_right (by omega), ← List.getD_eq_getElem?_getD]
    exact h2 _
theorem fine_bd {pcm : List Int} (h : ∀ j, -32768 ≤ pcm.getD j 0 ∧ pcm.getD j 0 ≤ 32767) (j : Nat) : -524288 ≤ (fine16 pcm).getD j 0 ∧ (fine16 pcm).getD j 0 ≤ 524288 := by
  unfold fine16
  rw [List.getD_eq_getElem?_getD, List.getElem?_map]
  have := h j
  rw [List.getD_eq_getElem?_getD] at this
  cases e : pcm[j]? with
  | none => simp
  | some x => rw [e] at this; simp at this ⊢; omega
theorem within_shape {X : List Int} (h : ∀ j, -524288 ≤ X.getD j 0 ∧ X.getD j 0 ≤ 524288) : ∀ y ∈ shapev X, -1048576 ≤ y ∧ y < 1048576 := by
  intro y hy
  unfold shapev at hy
  obtain ⟨i, _, rfl⟩ := List.mem_map.1 hy
  have := shape_bd (B := 524288) (by decide) h i
  omega
/-- A long frame's samples, in their place. -/
def longX (X : List Int) : List Int := splice (List.replicate 1024 0) 192 (shapev X)
theorem longX_len {X : List Int} (h : X.length = 640) : (longX X).length = 1024 := by
  unfold longX
  rw [length_splice _ _ _ (by rw [List.length_replicate]; unfold shapev; rw [List.length_map, List.length_range, h]; omega)]
  exact List.length_replicate
theorem longX_within {X : List Int} (h : ∀ j, -524288 ≤ X.getD j 0 ∧ X.getD j 0 ≤ 524288) : within 1048576 (longX X) = true := by
  unfold within longX splice
  rw [List.all_eq_true]
  intro y hy
  have : -1048576 ≤ y ∧ y < 1048576 := by
    rcases List.mem_append.1 hy with h1 | h1
    · have := List.eq_of_mem_replicate (List.mem_of_mem_take h1); subst this; decide
    · rcases List.mem_append.1 h1 with h1 | h1
      · exact within_shape h y h1
      · have := List.eq_of_mem_replicate (List.mem_of_mem_drop h1); subst this; decide
  simp
  omega
/-- A brief frame's lines, of four parts. -/
def brfL (X : List Int) : List Int := (List.range 512).map fun i => (fwdv 128 4 134217728 (shapev ((X.drop (128 * (i % 4))).take 256))).getD (i / 4) 0
def ovl (brief : Bool) (X : List Int) : List Int := if brief then brfL X else fwdv 512 1 268435456 (longX X)
attribute [local irreducible] longX brfL
set_option maxHeartbeats 1000000 in
set_option maxRecDepth 100000 in
theorem Lines_h {W w : World} {l : List Ast} {a c lo br : Nat} {v : Value} {past : List Int} (H : Hp W w (anaA a c lo br v :: slA 21 .i32 v past :: lapA lo c 512 1 28 :: lapA br c 128 4 27 :: circA c :: l)) (pl : past.length = 128) (pb : ∀ j, -524288 ≤ past.getD j 0 ∧ past.getD j 0 ≤ 524288)
    {A : Option Addr} {cap : Nat} {pcm : List Int} (rd : Rd W l .i16 (.slice A 512 cap) pcm) (ul : pcm.length = 512) (ub : ∀ j, -32768 ≤ pcm.getD j 0 ∧ pcm.getD j 0 ≤ 32767) (brief : Bool) :
    Calls Try.prog 29 #[.pointer (some ⟨a, 0, none⟩), .slice A 512 cap, .bool brief] w fun e w' => ∃ g v', e = .returned (.tuple #[.slice (some ⟨g, 0, none⟩) 512 512, .int .i64 0]) ∧ Hp W w' (rowA 21 .i32 g 512 (ovl brief (past ++ fine16 pcm)) :: anaA a c lo br v' :: slA 21 .i32 v' ((past ++ fine16 pcm).drop 512) :: lapA lo c 512 1 28 :: lapA br c 128 4 27 :: circA c :: l) := by
  obtain ⟨Av, cv, rfl, _⟩ := H.up1.sl.form
  have HH := Lib.hid H
  have PL := Lib.hid pl
  have PB := Lib.hid pb
  have RD := Lib.hid rd
  have UL := Lib.hid ul
  have UB := Lib.hid ub
  have c3 := H.blk.cell (i := 3) rfl
  have at1 := H.blk.lt
  have S0 := Lib.hid (Sl_empty w 21 .i32)
  have S1 := Lib.hid (Src.of_sl (H.alloc (.cells #[] 21)).up1.sl)
  have PC : Hid (past.length ≤ 2000) := Lib.hid (by rw [pl]; decide)
  clear H pl pb rd ul ub
  go_enter Try.func29, Try.ntmps29
  go_wp2_with (at_builtin; refine wpList_add (.tmp 25) (.tmp 29) 22 21 .i32 0 4 rfl rfl Try.underlying22 info_i32 _ _ [] past rfl rfl S0.out S1.out (by have := PC.out; simp; omega) (by have := PC.out; simp; omega) ?_
               intro v1 w1 hp
               have bf := added_fresh hp
               have sl1 := hp.sl
               rw [List.nil_append] at sl1
               have h1 := HH.out.add_sl bf.1 sl1 bf.2
               have H1 := Lib.hid h1
               clear hp bf sl1 h1 S0 S1)
  obtain ⟨F, hF⟩ : ∃ F, fine16 pcm = F := ⟨_, rfl⟩
  have fl : F.length = 512 := by rw [← hF]; unfold fine16; rw [List.length_map]; exact UL.out
  have fv : ∀ k, k < 512 → F.getD k 0 = pcm.getD k 0 * 16 := fun k hk => by
    rw [← hF]
    unfold fine16
    simp only [List.getD_eq_getElem?_getD, List.getElem?_map]
    rw [List.getElem?_eq_getElem (by rw [UL.out]; exact hk)]
    rfl
  have FL := Lib.hid fl
  have FV := Lib.hid fv
  have HFF := Lib.hid hF
  clear hF fl fv
  have H1' : Hid (Hp W w1 (slA 21 .i32 v1 (past ++ F.take 0) :: anaA a c lo br (.slice Av past.length cv) :: slA 21 .i32 (.slice Av past.length cv) past :: lapA lo c 512 1 28 :: lapA br c 128 4 27 :: circA c :: l)) := Lib.hid (by rw [List.take_zero, List.append_nil]; exact H1.out)
  clear H1
  go_loopw [8, 33] (fun u i wr => ∃ k : Nat, k ≤ 512 ∧ i = .int .i64 (k : Int) ∧ Hid (Hp W wr (slA 21 .i32 u (past ++ F.take k) :: anaA a c lo br (.slice Av past.length cv) :: slA 21 .i32 (.slice Av past.length cv) past :: lapA lo c 512 1 28 :: lapA br c 128 4 27 :: circA c :: l))) (fun _ i _ => 512 - (intOf i).toNat)
  case atStart => exact ⟨0, by omega, rfl, H1'⟩
  case round =>
    clear H1' c3
    obtain ⟨k, hk, rfl, H⟩ := hrel
    by_cases hlt : k < 512
    · have ik : (k : Int) < 512 := by omega
      obtain ⟨ad, rfl, hc⟩ := Src.at (RD.out wr H.out.drop.drop.drop.drop.drop.drop) (j := k) (by rw [UL.out]; exact hlt)
      have bx := UB.out k
      have fv := FV.out k hlt
      have tk : F.take (k + 1) = F.take k ++ [F.getD k 0] := by
        rw [List.take_succ_eq_append_getElem (by rw [FL.out]; exact hlt)]
        simp [List.getD, List.getElem?_eq_getElem (show k < F.length by rw [FL.out]; exact hlt)]
      have ln : (past ++ F.take k).length = 128 + k := by
        rw [List.length_append, PL.out, List.length_take, FL.out]; omega
      obtain ⟨x, hx⟩ : ∃ x, pcm.getD k 0 = x := ⟨_, rfl⟩
      rw [hx] at hc bx fv
      rw [fv] at tk
      have TK := Lib.hid tk
      have LN := Lib.hid ln
      clear hx fv tk ln
      go_wp2_with (at_builtin; refine wpList_push (.tmp 37) (.tmp 41) 22 21 .i32 0 4 rfl rfl Try.underlying22 info_i32 u8 (past ++ F.take k) (128 + k) (x * 16) ⟨wr.heap.size, 0, none⟩ (wr.heap.size + 1) rfl rfl (H.out.sl.alloc _) LN.out ((Blk.new wr _ _).cell rfl) (by simp) (by omega) (by omega) ?_
                   intro g1 cap1 w2 hp
                   have h1 := ((H.out.alloc _).push hp (by simp)).row_sl (n := 128 + k + 1) (by rw [List.length_append, LN.out]; rfl)
                   rw [List.append_assoc, ← TK.out] at h1
                   have H2 := Lib.hid h1
                   clear hp h1)
      go_roundw
      case rel => exact ⟨k + 1, by omega, by go_num, H2⟩
      case measure => simp [intOf]; omega
    · obtain rfl : k = 512 := by omega
      have tf : F.take 512 = F := List.take_of_length_le (by rw [FL.out]; decide)
      rw [tf] at H
      obtain ⟨X, hX⟩ : ∃ X, past ++ F = X := ⟨_, rfl⟩
      have xl : X.length = 640 := by rw [← hX, List.length_append, PL.out, FL.out]
      rw [hX] at H
      obtain ⟨g8, c8, rfl, hr8⟩ := Sl_some H.out.sl (by rw [xl]; decide)
      have c8b := hr8.len.1
      rw [xl] at c8b
      have S0 := Lib.hid (Sl_empty wr 21 .i32)
      have S1 : Hid (Src (wr.alloc (.cells #[] 21)) .i32 (.slice (some ⟨g8, 512, none⟩) 128 (c8 - 512)) (X.drop 512)) := Lib.hid (Src_drop (hr8.alloc _) 512 _ (by rw [xl]))
      have DL : Hid ((X.drop 512).length = 128) := Lib.hid (by rw [List.length_drop, xl])
      obtain ⟨D, hD⟩ : ∃ D, X.drop 512 = D := ⟨_, rfl⟩
      rw [hD] at S1 DL
      have HDD := Lib.hid hD
      have fr := H.out.up1.blk.free 3
      have fc := H.out.up1.blk.cell (i := 3) rfl
      have al := H.out.up1.blk.lt
      have n8 : 512 < c8 := by omega
      have n9 : ¬ c8 = 512 := by omega
      rw [xl] at H
      rw [xl]
      have HX := Lib.hid hX
      have XL := Lib.hid xl
      have R8 := Lib.hid hr8
      have hm := mk32 1024 (by decide)
      rw [show ((1024 : Nat) : Int) = 1024 from rfl] at hm
      have hm2 := mk32 512 (by decide)
      rw [show ((512 : Nat) : Int) = 512 from rfl] at hm2
      have DC : Hid (D.length ≤ 2000) := Lib.hid (by rw [DL.out]; decide)
      clear hr8 hX xl tf hD
      cases brief
      all_goals
        go_wp2_with (at_builtin; refine wpList_add (.tmp 45) (.tmp 47) 22 21 .i32 0 4 rfl rfl Try.underlying22 info_i32 _ _ [] D rfl rfl S0.out S1.out (by have := DC.out; simp; omega) (by have := DC.out; simp; omega) ?_
                     intro v2 w2 hp
                     have bf := added_fresh hp
                     have sl1 := hp.sl
                     rw [List.nil_append] at sl1
                     have h1 := H.out.add_sl bf.1 sl1 bf.2
                     obtain ⟨A2, c2, rfl, _⟩ := h1.sl.form
                     have fr2 := h1.up2.blk.free 3
                     have fc2 := h1.up2.blk.cell (i := 3) rfl
                     have H2 := Lib.hid (h1.up2.bset 3 (.slice A2 D.length c2))
                     have B2 := Lib.hid bf.1
                     clear hp bf sl1 h1 S0 S1)
      -- the long way
      rotate_left
      · have hz : (w2.setCell ⟨a, 3, none⟩ (.slice A2 D.length c2)).heap.size = w2.heap.size := by simp
        have hp2 : Hp W (w2.setCell ⟨a, 3, none⟩ (.slice A2 D.length c2)) (anaA a c lo br (.slice A2 D.length c2) :: slA 21 .i32 (.slice A2 D.length c2) D :: slA 21 .i32 (.slice (some ⟨g8, 0, none⟩) 640 c8) X :: slA 21 .i32 (.slice Av past.length cv) past :: lapA lo c 512 1 28 :: lapA br c 128 4 27 :: circA c :: l) := H2.out
        clear H2 B2 fr2 fc2
        generalize w2.setCell ⟨a, 3, none⟩ (.slice A2 D.length c2) = w3 at hz hp2 ⊢
        rw [← hz]
        obtain ⟨f, hf⟩ : ∃ f : Nat → Int, f = fun i => (fwdv 128 4 134217728 (shapev ((X.drop (128 * (i % 4))).take 256))).getD (i / 4) 0 := ⟨_, rfl⟩
        have HF := Lib.hid hf
        have h4 := (hp2.new_row 21 .i32 512 0 (by decide)).up4.drop
        rw [← pf_none f (fun j => decide (j % 4 < 0)) 512 (fun j _ => by simp)] at h4
        have H4 := Lib.hid h4
        have XB : Hid (∀ j, -524288 ≤ X.getD j 0 ∧ X.getD j 0 ≤ 524288) := Lib.hid (by
          rw [← HX.out, ← HFF.out]
          exact app_bd PB.out (fine_bd UB.out))
        obtain ⟨go, hgo⟩ : ∃ go, w3.heap.size = go := ⟨_, rfl⟩
        rw [hgo] at H4 ⊢
        clear hz hp2 h4 hf hgo fr fc
        go_loopw [73] (fun i wr => ∃ m : Nat, m ≤ 4 ∧ i = .int .i64 (m : Int) ∧ Hid (Hp W wr (rowA 21 .i32 go 512 (pf f (fun j => decide (j % 4 < m)) 512) :: anaA a c lo br (.slice A2 D.length c2) :: slA 21 .i32 (.slice A2 D.length c2) D :: slA 21 .i32 (.slice (some ⟨g8, 0, none⟩) 640 c8) X :: lapA lo c 512 1 28 :: lapA br c 128 4 27 :: circA c :: l))) (fun i _ => 4 - (intOf i).toNat)
        case atStart => exact ⟨0, by omega, rfl, H4⟩
        case round =>
          clear H4 H
          obtain ⟨m, hm4, rfl, H⟩ := hrel
          by_cases mlt : m < 4
          · rcases (show m = 0 ∨ m = 1 ∨ m = 2 ∨ m = 3 by omega) with rfl | rfl | rfl | rfl
            · go_wp2_with fail
              have q0 : IntKind.i64.wrap (0 * 128) = 0 := by decide
              have q1 : IntKind.i64.wrap (0 + 2) = 2 := by decide
              have q2 : IntKind.i64.wrap (2 * 128) = 256 := by decide
              have q3 : IntKind.i64.wrap 0 = 0 := by decide
              have q4 : IntKind.i64.wrap 2 = 2 := by decide
              have q5 : IntKind.i64.wrap 256 = 256 := by decide
              have z4 : (256 : Int) ≤ (c8 : Int) := by omega
              have z5 : ¬ c8 = 0 := by omega
              have z6 : 256 ≤ c8 := by omega
              have XML : Hid (((X.drop 0).take 256).length = 256) := Lib.hid (by rw [List.length_take, List.length_drop, XL.out]; rfl)
              have XMB : Hid (∀ j, -524288 ≤ ((X.drop 0).take 256).getD j 0 ∧ ((X.drop 0).take 256).getD j 0 ≤ 524288) := Lib.hid (sub_bd (by decide) XB.out _ _)
              have SXM : Hid (∀ w5, Hp W w5 (rowA 21 .i32 go 512 (pf f (fun j => decide (j % 4 < 0)) 512) :: anaA a c lo br (.slice A2 D.length c2) :: slA 21 .i32 (.slice A2 D.length c2) D :: slA 21 .i32 (.slice (some ⟨g8, 0, none⟩) 640 c8) X :: lapA lo c 512 1 28 :: lapA br c 128 4 27 :: circA c :: l) → Src w5 .i32 (.slice (some ⟨g8, 0, none⟩) 256 (c8 - 0)) ((X.drop 0).take 256)) := Lib.hid (fun w5 h5 => Src_sub h5.up3.sl rfl _ _ _ (by rw [XL.out]; decide) (by decide))
              have SML : Hid ((shapev ((X.drop 0).take 256)).length = 256) := Lib.hid (by unfold shapev; rw [List.length_map, List.length_range]; exact XML.out)
              have SMW : Hid (within 1048576 (shapev ((X.drop 0).take 256)) = true) := Lib.hid (within_shape' XMB.out)
              refine wp_region_noPanic ?_
              refine wp_region_any (by kernel_rfl) ?_
              try (change wpAny _ _ _ _ _ _ _ (World.drew _))
              refine wpAny_of_held (S := fun w5 => Hp W w5 (rowA 21 .i32 go 512 (pf f (fun j => decide (j % 4 < 0)) 512) :: anaA a c lo br (.slice A2 D.length c2) :: slA 21 .i32 (.slice A2 D.length c2) D :: slA 21 .i32 (.slice (some ⟨g8, 0, none⟩) 640 c8) X :: lapA lo c 512 1 28 :: lapA br c 128 4 27 :: circA c :: l)) _ _ _ _ ?_
              have hHeld := H.out.drew
              refine wpAnyH_take (i := 0) (v := ?_) rfl (by kernel_rfl) (by kernel_rfl) (by kernel_rfl) (fun _ _ _ h => h) (Or.inl ⟨by kernel_rfl, ?_⟩) hHeld ?_
              rotate_left
              · intro w hSw
                first | (go_simp; done) | (go_simp; with_reducible rfl)
              try simp only [Act.put, List.getElem_toArray, List.getElem_cons_zero, List.getElem_cons_succ, List.setIfInBounds_toArray, List.set_cons_zero, List.set_cons_succ]
              refine wpAnyH_take (i := 1) (v := ?_) rfl (by kernel_rfl) (by kernel_rfl) (by kernel_rfl) (fun _ _ _ h => h) (Or.inl ⟨by kernel_rfl, ?_⟩) hHeld ?_
              rotate_left
              · intro w hSw
                first | (go_simp; done) | (go_simp; with_reducible rfl)
              try simp only [Act.put, List.getElem_toArray, List.getElem_cons_zero, List.getElem_cons_succ, List.setIfInBounds_toArray, List.set_cons_zero, List.set_cons_succ]
              refine wpAnyH_take (i := 2) (v := ?_) rfl (by kernel_rfl) (by kernel_rfl) (by kernel_rfl) (fun _ _ _ h => h) (Or.inl ⟨by kernel_rfl, ?_⟩) hHeld ?_
              rotate_left
              · intro w hSw
                first | (go_simp; done) | (go_simp; with_reducible rfl)
              try simp only [Act.put, List.getElem_toArray, List.getElem_cons_zero, List.getElem_cons_succ, List.setIfInBounds_toArray, List.set_cons_zero, List.set_cons_succ]
              refine wpAnyH_take (i := 3) (v := ?_) rfl (by kernel_rfl) (by kernel_rfl) (by kernel_rfl) (fun _ _ _ h => h) (Or.inl ⟨by kernel_rfl, ?_⟩) hHeld ?_
              rotate_left
              · intro w hSw
                first | (go_simp; done) | (go_simp; with_reducible rfl)
              try simp only [Act.put, List.getElem_toArray, List.getElem_cons_zero, List.getElem_cons_succ, List.setIfInBounds_toArray, List.set_cons_zero, List.set_cons_succ]
              refine wpAnyH_take (i := 4) (v := ?_) rfl (by kernel_rfl) (by kernel_rfl) (by kernel_rfl) (fun _ _ _ h => h) (Or.inl ⟨by kernel_rfl, ?_⟩) hHeld ?_
              rotate_left
              · intro w hSw
                have d0 := (Hp.blk (Hp.up1 hSw)).cell (i := 0) rfl
                have d1 := (Hp.blk (Hp.up1 hSw)).cell (i := 1) rfl
                have d2 := (Hp.blk (Hp.up1 hSw)).cell (i := 2) rfl
                first | (go_simp; done) | (go_simp; with_reducible rfl)
              try simp only [Act.put, List.getElem_toArray, List.getElem_cons_zero, List.getElem_cons_succ, List.setIfInBounds_toArray, List.set_cons_zero, List.set_cons_succ]
              refine wpAnyH_take (i := 5) (v := ?_) rfl (by kernel_rfl) (by kernel_rfl) (by kernel_rfl) (fun _ _ _ h => h) (Or.inl ⟨by kernel_rfl, ?_⟩) hHeld ?_
              rotate_left
              · intro w hSw
                first | (go_simp; done) | (go_simp; with_reducible rfl)
              try simp only [Act.put, List.getElem_toArray, List.getElem_cons_zero, List.getElem_cons_succ, List.setIfInBounds_toArray, List.set_cons_zero, List.set_cons_succ]
              refine wpAnyH_take (i := 6) (v := ?_) rfl (by kernel_rfl) (by kernel_rfl) (by kernel_rfl) (fun _ _ _ h => h) (Or.inl ⟨by kernel_rfl, ?_⟩) hHeld ?_
              rotate_left
              · intro w hSw
                first | (go_simp; done) | (go_simp; with_reducible rfl)
              try simp only [Act.put, List.getElem_toArray, List.getElem_cons_zero, List.getElem_cons_succ, List.setIfInBounds_toArray, List.set_cons_zero, List.set_cons_succ]
              refine wpAnyH_take (i := 7) (v := ?_) rfl (by kernel_rfl) (by kernel_rfl) (by kernel_rfl) (fun _ _ _ h => h) (Or.inl ⟨by kernel_rfl, ?_⟩) hHeld ?_
              rotate_left
              · intro w hSw
                first | (go_simp; done) | (go_simp; with_reducible rfl)
              try simp only [Act.put, List.getElem_toArray, List.getElem_cons_zero, List.getElem_cons_succ, List.setIfInBounds_toArray, List.set_cons_zero, List.set_cons_succ]
              refine wpAnyH_take (i := 8) (v := ?_) rfl (by kernel_rfl) (by kernel_rfl) (by kernel_rfl) (fun _ _ _ h => h) (Or.inl ⟨by kernel_rfl, ?_⟩) hHeld ?_
              rotate_left
              · intro w hSw
                have d0 := (Hp.blk (Hp.up1 hSw)).cell (i := 0) rfl
                have d1 := (Hp.blk (Hp.up1 hSw)).cell (i := 1) rfl
                have d2 := (Hp.blk (Hp.up1 hSw)).cell (i := 2) rfl
                first | (go_simp; done) | (go_simp; with_reducible rfl)
              try simp only [Act.put, List.getElem_toArray, List.getElem_cons_zero, List.getElem_cons_succ, List.setIfInBounds_toArray, List.set_cons_zero, List.set_cons_succ]
              refine wpAnyH_take (i := 9) (v := ?_) rfl (by kernel_rfl) (by kernel_rfl) (by kernel_rfl) (fun _ _ _ h => h) (Or.inl ⟨by kernel_rfl, ?_⟩) hHeld ?_
              rotate_left
              · intro w hSw
                first | (go_simp; done) | (go_simp; with_reducible rfl)
              try simp only [Act.put, List.getElem_toArray, List.getElem_cons_zero, List.getElem_cons_succ, List.setIfInBounds_toArray, List.set_cons_zero, List.set_cons_succ]
              refine wpAnyH_take (i := 10) (v := ?_) rfl (by kernel_rfl) (by kernel_rfl) (by kernel_rfl) (fun _ _ _ h => h) (Or.inl ⟨by kernel_rfl, ?_⟩) hHeld ?_
              rotate_left
              · intro w hSw
                first | (go_simp; done) | (go_simp; with_reducible rfl)
              try simp only [Act.put, List.getElem_toArray, List.getElem_cons_zero, List.getElem_cons_succ, List.setIfInBounds_toArray, List.set_cons_zero, List.set_cons_succ]
              refine wpAnyH_take (i := 11) (v := ?_) rfl (by kernel_rfl) (by kernel_rfl) (by kernel_rfl) (fun _ _ _ h => h) (Or.inl ⟨by kernel_rfl, ?_⟩) hHeld ?_
              rotate_left
              · intro w hSw
                first | (go_simp; done) | (go_simp; with_reducible rfl)
              try simp only [Act.put, List.getElem_toArray, List.getElem_cons_zero, List.getElem_cons_succ, List.setIfInBounds_toArray, List.set_cons_zero, List.set_cons_succ]
              refine wpAnyH_take (i := 12) (v := ?_) rfl (by kernel_rfl) (by kernel_rfl) (by kernel_rfl) (fun _ _ _ h => h) (Or.inl ⟨by kernel_rfl, ?_⟩) hHeld ?_
              rotate_left
              · intro w hSw
                first | (go_simp; done) | (go_simp; with_reducible rfl)
              try simp only [Act.put, List.getElem_toArray, List.getElem_cons_zero, List.getElem_cons_succ, List.setIfInBounds_toArray, List.set_cons_zero, List.set_cons_succ]
              refine wpAnyH_take (i := 13) (v := ?_) rfl (by kernel_rfl) (by kernel_rfl) (by kernel_rfl) (fun _ _ _ h => h) (Or.inl ⟨by kernel_rfl, ?_⟩) hHeld ?_
              rotate_left
              · intro w hSw
                first | (go_simp; done) | (go_simp; with_reducible rfl)
              try simp only [Act.put, List.getElem_toArray, List.getElem_cons_zero, List.getElem_cons_succ, List.setIfInBounds_toArray, List.set_cons_zero, List.set_cons_succ]
              refine wpAnyH_take (i := 14) (v := ?_) rfl (by kernel_rfl) (by kernel_rfl) (by kernel_rfl) (fun _ _ _ h => h) (Or.inl ⟨by kernel_rfl, ?_⟩) hHeld ?_
              rotate_left
              · intro w hSw
                first | (go_simp; done) | (go_simp; with_reducible rfl)
              try simp only [Act.put, List.getElem_toArray, List.getElem_cons_zero, List.getElem_cons_succ, List.setIfInBounds_toArray, List.set_cons_zero, List.set_cons_succ]
              refine wpAnyH_take (i := 15) (v := ?_) rfl (by kernel_rfl) (by kernel_rfl) (by kernel_rfl) (fun _ _ _ h => h) (Or.inl ⟨by kernel_rfl, ?_⟩) hHeld ?_
              rotate_left
              · intro w hSw
                first | (go_simp; done) | (go_simp; with_reducible rfl)
              try simp only [Act.put, List.getElem_toArray, List.getElem_cons_zero, List.getElem_cons_succ, List.setIfInBounds_toArray, List.set_cons_zero, List.set_cons_succ]
              refine wpAnyH_ready (rs := [16]) (by kernel_rfl) (by simp) ?_
              refine AllReadyH.cons rfl (fun K hK => ?_) AllReadyH.nil
              go_simp
              go_at_call 51
              refine (shape_calls (Hp.blk (Hp.up6 hHeld)) _ _ (SXM.out _ hHeld) (XML.out) (by decide) (by decide) (fun j => by have := XMB.out j; omega)).mono ?_
              rintro e8 w8 ⟨gs, rfl, hgs, hrs, b8⟩
              have H8 := Lib.hid (Hp.add_row hHeld b8 hrs hgs)
              clear hrs b8 hgs
              go_simp
              refine hK.out _ _ (H8.out.drop) (fun hHeld => ?_)
              clear hK K
              try simp only [Act.put, List.getElem_toArray, List.getElem_cons_zero, List.getElem_cons_succ, List.setIfInBounds_toArray, List.set_cons_zero, List.set_cons_succ]
              refine wpAnyH_ready (rs := [17]) (by kernel_rfl) (by simp) ?_
              refine AllReadyH.cons rfl (fun K hK => ?_) AllReadyH.nil
              go_simp
              go_at_call 22
              refine (Forward128 (Hp_lap (H8.out.pk [6, 6])) (by have := Src.of_sl (Sl.row H8.out.row); rw [SML.out] at this; exact this) SML.out SMW.out).mono ?_
              rintro e9 w9 ⟨gl, rfl, hgl, hrl, b9⟩
              have H9 := Lib.hid ((H8.out.drop).add_row b9 hrl hgl)
              clear hrl b9 hgl H8
              go_simp
              refine hK.out _ _ (H9.out.drop) (fun hHeld => ?_)
              clear hK K
              try simp only [Act.put, List.getElem_toArray, List.getElem_cons_zero, List.getElem_cons_succ, List.setIfInBounds_toArray, List.set_cons_zero, List.set_cons_succ]
              refine wpAnyH_take (i := 18) (v := ?_) rfl (by kernel_rfl) (by kernel_rfl) (by kernel_rfl) (fun _ _ _ h => h) (Or.inl ⟨by kernel_rfl, ?_⟩) hHeld ?_
              rotate_left
              · intro w hSw
                first | (go_simp; done) | (go_simp; with_reducible rfl)
              try simp only [Act.put, List.getElem_toArray, List.getElem_cons_zero, List.getElem_cons_succ, List.setIfInBounds_toArray, List.set_cons_zero, List.set_cons_succ]
              refine wpAnyH_take (i := 19) (v := ?_) rfl (by kernel_rfl) (by kernel_rfl) (by kernel_rfl) (fun _ _ _ h => h) (Or.inl ⟨by kernel_rfl, ?_⟩) hHeld ?_
              rotate_left
              · intro w hSw
                first | (go_simp; done) | (go_simp; with_reducible rfl)
              try simp only [Act.put, List.getElem_toArray, List.getElem_cons_zero, List.getElem_cons_succ, List.setIfInBounds_toArray, List.set_cons_zero, List.set_cons_succ]
              refine wpAnyH_take (i := 20) (v := ?_) rfl (by kernel_rfl) (by kernel_rfl) (by kernel_rfl) (fun _ _ _ h => h) (Or.inl ⟨by kernel_rfl, ?_⟩) hHeld ?_
              rotate_left
              · intro w hSw
                first | (go_simp; done) | (go_simp; with_reducible rfl)
              try simp only [Act.put, List.getElem_toArray, List.getElem_cons_zero, List.getElem_cons_succ, List.setIfInBounds_toArray, List.set_cons_zero, List.set_cons_succ]
              refine wpAnyH_take (i := 21) (v := ?_) rfl (by kernel_rfl) (by kernel_rfl) (by kernel_rfl) (fun _ _ _ h => h) (Or.inl ⟨by kernel_rfl, ?_⟩) hHeld ?_
              rotate_left
              · intro w hSw
                first | (go_simp; done) | (go_simp; with_reducible rfl)
              try simp only [Act.put, List.getElem_toArray, List.getElem_cons_zero, List.getElem_cons_succ, List.setIfInBounds_toArray, List.set_cons_zero, List.set_cons_succ]
              refine wpAnyH_take (i := 22) (v := ?_) rfl (by kernel_rfl) (by kernel_rfl) (by kernel_rfl) (fun _ _ _ h => h) (Or.inl ⟨by kernel_rfl, ?_⟩) hHeld ?_
              rotate_left
              · intro w hSw
                first | (go_simp; done) | (go_simp; with_reducible rfl)
              try simp only [Act.put, List.getElem_toArray, List.getElem_cons_zero, List.getElem_cons_succ, List.setIfInBounds_toArray, List.set_cons_zero, List.set_cons_succ]
              refine wpAnyH_done (by kernel_rfl) ?_ _
              refine NoPanic.normal ?_
              clear q0 q1 q2 q3 q4 q5 z4 z5 z6 SXM XML XMB SML SMW
              have H9' : Hid (Hp W w9 (rowA 21 .i32 gl 128 (fwdv 128 4 134217728 (shapev ((X.drop 0).take 256))) :: rowA 21 .i32 go 512 (pf f (fun j => decide (j % 4 < 0) || decide (j % 4 = 0 ∧ j / 4 < 0)) 512) :: anaA a c lo br (.slice A2 D.length c2) :: slA 21 .i32 (.slice A2 D.length c2) D :: slA 21 .i32 (.slice (some ⟨g8, 0, none⟩) 640 c8) X :: lapA lo c 512 1 28 :: lapA br c 128 4 27 :: circA c :: l)) := Lib.hid (by
                have := H9.out
                rw [pf_eq f (fun j => decide (j % 4 < 0)) (fun j => decide (j % 4 < 0) || decide (j % 4 = 0 ∧ j / 4 < 0)) 512 (fun j _ => by simp)] at this
                exact this)
              clear H9 H
              go_wp2_with fail
              go_loopw [102] (fun i wr => ∃ k : Nat, k ≤ 128 ∧ i = .int .i64 (k : Int) ∧ Hid (Hp W wr (rowA 21 .i32 gl 128 (fwdv 128 4 134217728 (shapev ((X.drop 0).take 256))) :: rowA 21 .i32 go 512 (pf f (fun j => decide (j % 4 < 0) || decide (j % 4 = 0 ∧ j / 4 < k)) 512) :: anaA a c lo br (.slice A2 D.length c2) :: slA 21 .i32 (.slice A2 D.length c2) D :: slA 21 .i32 (.slice (some ⟨g8, 0, none⟩) 640 c8) X :: lapA lo c 512 1 28 :: lapA br c 128 4 27 :: circA c :: l))) (fun i _ => 128 - (intOf i).toNat)
              case atStart => exact ⟨0, by omega, rfl, H9'⟩
              case round =>
                clear H9'
                obtain ⟨k, hk, rfl, H⟩ := hrel
                by_cases klt : k < 128
                · have kk : (k : Int) < 128 := by omega
                  have hc := H.out.row.cell (i := k) (by rw [fwdv_len]; exact klt)
                  have e1 : (fwdv 128 4 134217728 (shapev ((X.drop 0).take 256)))[k]'(by rw [fwdv_len]; exact klt) = (fwdv 128 4 134217728 (shapev ((X.drop 0).take 256))).getD k 0 := by rw [List.getD_eq_getElem?_getD, List.getElem?_eq_getElem (by rw [fwdv_len]; exact klt)]; rfl
                  rw [e1] at hc
                  obtain ⟨i1, hi1⟩ : ∃ i1 : Nat, i1 = 4 * k + 0 := ⟨_, rfl⟩
                  have fi : f i1 = (fwdv 128 4 134217728 (shapev ((X.drop 0).take 256))).getD k 0 := by
                    rw [HF.out]
                    show (fwdv 128 4 134217728 (shapev ((X.drop (128 * (i1 % 4))).take 256))).getD (i1 / 4) 0 = _
                    rw [show i1 % 4 = 0 by omega, show i1 / 4 = k by omega]
                  obtain ⟨y, hy⟩ : ∃ y, (fwdv 128 4 134217728 (shapev ((X.drop 0).take 256))).getD k 0 = y := ⟨_, rfl⟩
                  rw [hy] at hc fi
                  have hs := H.out.up1.set i1 (f i1)
                  rw [pf_set f _ (fun j => decide (j % 4 < 0) || decide (j % 4 = 0 ∧ j / 4 < k + 1)) _ _ (fun j hj => by rw [Bool.eq_iff_iff]; simp; omega), fi] at hs
                  have HS := Lib.hid hs.up1
                  have fr := H.out.up1.row.free i1
                  have fc := H.out.up1.row.cell (i := i1) (by rw [pf_len]; omega)
                  rw [pf_get] at fc
                  obtain ⟨vv, hvv⟩ : ∃ vv, (if (decide (i1 % 4 < 0) || decide (i1 % 4 = 0 ∧ i1 / 4 < k)) = true then f i1 else 0) = vv := ⟨_, rfl⟩
                  rw [hvv] at fc
                  have e2 : (4 * (k : Int) + 0).toNat = i1 := by omega
                  have e3 : (4 * (k : Int)).toNat = i1 - 0 := by omega
                  have l1 : i1 < 512 := by omega
                  clear hs hy fi e1 hvv hi1
                  go_wp2_with fail
                  go_roundw
                  case rel => exact ⟨k + 1, by omega, by go_num, HS⟩
                  case measure => simp [intOf]; omega
                · obtain rfl : k = 128 := by omega
                  have h7 := H.out.drop
                  rw [pf_eq f _ (fun j => decide (j % 4 < 0 + 1)) 512 (fun j hj => by rw [Bool.eq_iff_iff]; simp; omega)] at h7
                  have H7 := Lib.hid h7
                  clear h7 H
                  go_wp2_with fail
                  go_roundw
                  case rel => exact ⟨0 + 1, by omega, by first | rfl | go_num, H7⟩
                  case measure => simp [intOf]
            · go_wp2_with fail
              have q0 : IntKind.i64.wrap (1 * 128) = 128 := by decide
              have q1 : IntKind.i64.wrap (1 + 2) = 3 := by decide
              have q2 : IntKind.i64.wrap (3 * 128) = 384 := by decide
              have q3 : IntKind.i64.wrap 0 = 0 := by decide
              have q4 : IntKind.i64.wrap 1 = 1 := by decide
              have q5 : IntKind.i64.wrap 128 = 128 := by decide
              have q6 : IntKind.i64.wrap 3 = 3 := by decide
              have q7 : IntKind.i64.wrap 384 = 384 := by decide
              have z4 : (384 : Int) ≤ (c8 : Int) := by omega
              have z5 : ¬ c8 = 128 := by omega
              have z6 : 384 ≤ c8 := by omega
              have XML : Hid (((X.drop 128).take 256).length = 256) := Lib.hid (by rw [List.length_take, List.length_drop, XL.out]; rfl)
              have XMB : Hid (∀ j, -524288 ≤ ((X.drop 128).take 256).getD j 0 ∧ ((X.drop 128).take 256).getD j 0 ≤ 524288) := Lib.hid (sub_bd (by decide) XB.out _ _)
              have SXM : Hid (∀ w5, Hp W w5 (rowA 21 .i32 go 512 (pf f (fun j => decide (j % 4 < 1)) 512) :: anaA a c lo br (.slice A2 D.length c2) :: slA 21 .i32 (.slice A2 D.length c2) D :: slA 21 .i32 (.slice (some ⟨g8, 0, none⟩) 640 c8) X :: lapA lo c 512 1 28 :: lapA br c 128 4 27 :: circA c :: l) → Src w5 .i32 (.slice (some ⟨g8, 128, none⟩) 256 (c8 - 128)) ((X.drop 128).take 256)) := Lib.hid (fun w5 h5 => Src_sub h5.up3.sl rfl _ _ _ (by rw [XL.out]; decide) (by decide))
              have SML : Hid ((shapev ((X.drop 128).take 256)).length = 256) := Lib.hid (by unfold shapev; rw [List.length_map, List.length_range]; exact XML.out)
              have SMW : Hid (within 1048576 (shapev ((X.drop 128).take 256)) = true) := Lib.hid (within_shape' XMB.out)
              refine wp_region_noPanic ?_
              refine wp_region_any (by kernel_rfl) ?_
              try (change wpAny _ _ _ _ _ _ _ (World.drew _))
              refine wpAny_of_held (S := fun w5 => Hp W w5 (rowA 21 .i32 go 512 (pf f (fun j => decide (j % 4 < 1)) 512) :: anaA a c lo br (.slice A2 D.length c2) :: slA 21 .i32 (.slice A2 D.length c2) D :: slA 21 .i32 (.slice (some ⟨g8, 0, none⟩) 640 c8) X :: lapA lo c 512 1 28 :: lapA br c 128 4 27 :: circA c :: l)) _ _ _ _ ?_
              have hHeld := H.out.drew
              refine wpAnyH_take (i := 0) (v := ?_) rfl (by kernel_rfl) (by kernel_rfl) (by kernel_rfl) (fun _ _ _ h => h) (Or.inl ⟨by kernel_rfl, ?_⟩) hHeld ?_
              rotate_left
              · intro w hSw
                first | (go_simp; done) | (go_simp; with_reducible rfl)
              try simp only [Act.put, List.getElem_toArray, List.getElem_cons_zero, List.getElem_cons_succ, List.setIfInBounds_toArray, List.set_cons_zero, List.set_cons_succ]
              refine wpAnyH_take (i := 1) (v := ?_) rfl (by kernel_rfl) (by kernel_rfl) (by kernel_rfl) (fun _ _ _ h => h) (Or.inl ⟨by kernel_rfl, ?_⟩) hHeld ?_
              rotate_left
              · intro w hSw
                first | (go_simp; done) | (go_simp; with_reducible rfl)
              try simp only [Act.put, List.getElem_toArray, List.getElem_cons_zero, List.getElem_cons_succ, List.setIfInBounds_toArray, List.set_cons_zero, List.set_cons_succ]
              refine wpAnyH_take (i := 2) (v := ?_) rfl (by kernel_rfl) (by kernel_rfl) (by kernel_rfl) (fun _ _ _ h => h) (Or.inl ⟨by kernel_rfl, ?_⟩) hHeld ?_
              rotate_left
              · intro w hSw
                first | (go_simp; done) | (go_simp; with_reducible rfl)
              try simp only [Act.put, List.getElem_toArray, List.getElem_cons_zero, List.getElem_cons_succ, List.setIfInBounds_toArray, List.set_cons_zero, List.set_cons_succ]
              refine wpAnyH_take (i := 3) (v := ?_) rfl (by kernel_rfl) (by kernel_rfl) (by kernel_rfl) (fun _ _ _ h => h) (Or.inl ⟨by kernel_rfl, ?_⟩) hHeld ?_
              rotate_left
              · intro w hSw
                first | (go_simp; done) | (go_simp; with_reducible rfl)
              try simp only [Act.put, List.getElem_toArray, List.getElem_cons_zero, List.getElem_cons_succ, List.setIfInBounds_toArray, List.set_cons_zero, List.set_cons_succ]
              refine wpAnyH_take (i := 4) (v := ?_) rfl (by kernel_rfl) (by kernel_rfl) (by kernel_rfl) (fun _ _ _ h => h) (Or.inl ⟨by kernel_rfl, ?_⟩) hHeld ?_
              rotate_left
              · intro w hSw
                have d0 := (Hp.blk (Hp.up1 hSw)).cell (i := 0) rfl
                have d1 := (Hp.blk (Hp.up1 hSw)).cell (i := 1) rfl
                have d2 := (Hp.blk (Hp.up1 hSw)).cell (i := 2) rfl
                first | (go_simp; done) | (go_simp; with_reducible rfl)
              try simp only [Act.put, List.getElem_toArray, List.getElem_cons_zero, List.getElem_cons_succ, List.setIfInBounds_toArray, List.set_cons_zero, List.set_cons_succ]
              refine wpAnyH_take (i := 5) (v := ?_) rfl (by kernel_rfl) (by kernel_rfl) (by kernel_rfl) (fun _ _ _ h => h) (Or.inl ⟨by kernel_rfl, ?_⟩) hHeld ?_
              rotate_left
              · intro w hSw
                first | (go_simp; done) | (go_simp; with_reducible rfl)
              try simp only [Act.put, List.getElem_toArray, List.getElem_cons_zero, List.getElem_cons_succ, List.setIfInBounds_toArray, List.set_cons_zero, List.set_cons_succ]
              refine wpAnyH_take (i := 6) (v := ?_) rfl (by kernel_rfl) (by kernel_rfl) (by kernel_rfl) (fun _ _ _ h => h) (Or.inl ⟨by kernel_rfl, ?_⟩) hHeld ?_
              rotate_left
              · intro w hSw
                first | (go_simp; done) | (go_simp; with_reducible rfl)
              try simp only [Act.put, List.getElem_toArray, List.getElem_cons_zero, List.getElem_cons_succ, List.setIfInBounds_toArray, List.set_cons_zero, List.set_cons_succ]
              refine wpAnyH_take (i := 7) (v := ?_) rfl (by kernel_rfl) (by kernel_rfl) (by kernel_rfl) (fun _ _ _ h => h) (Or.inl ⟨by kernel_rfl, ?_⟩) hHeld ?_
              rotate_left
              · intro w hSw
                first | (go_simp; done) | (go_simp; with_reducible rfl)
              try simp only [Act.put, List.getElem_toArray, List.getElem_cons_zero, List.getElem_cons_succ, List.setIfInBounds_toArray, List.set_cons_zero, List.set_cons_succ]
              refine wpAnyH_take (i := 8) (v := ?_) rfl (by kernel_rfl) (by kernel_rfl) (by kernel_rfl) (fun _ _ _ h => h) (Or.inl ⟨by kernel_rfl, ?_⟩) hHeld ?_
              rotate_left
              · intro w hSw
                have d0 := (Hp.blk (Hp.up1 hSw)).cell (i := 0) rfl
                have d1 := (Hp.blk (Hp.up1 hSw)).cell (i := 1) rfl
                have d2 := (Hp.blk (Hp.up1 hSw)).cell (i := 2) rfl
                first | (go_simp; done) | (go_simp; with_reducible rfl)
              try simp only [Act.put, List.getElem_toArray, List.getElem_cons_zero, List.getElem_cons_succ, List.setIfInBounds_toArray, List.set_cons_zero, List.set_cons_succ]
              refine wpAnyH_take (i := 9) (v := ?_) rfl (by kernel_rfl) (by kernel_rfl) (by kernel_rfl) (fun _ _ _ h => h) (Or.inl ⟨by kernel_rfl, ?_⟩) hHeld ?_
              rotate_left
              · intro w hSw
                first | (go_simp; done) | (go_simp; with_reducible rfl)
              try simp only [Act.put, List.getElem_toArray, List.getElem_cons_zero, List.getElem_cons_succ, List.setIfInBounds_toArray, List.set_cons_zero, List.set_cons_succ]
              refine wpAnyH_take (i := 10) (v := ?_) rfl (by kernel_rfl) (by kernel_rfl) (by kernel_rfl) (fun _ _ _ h => h) (Or.inl ⟨by kernel_rfl, ?_⟩) hHeld ?_
              rotate_left
              · intro w hSw
                first | (go_simp; done) | (go_simp; with_reducible rfl)
              try simp only [Act.put, List.getElem_toArray, List.getElem_cons_zero, List.getElem_cons_succ, List.setIfInBounds_toArray, List.set_cons_zero, List.set_cons_succ]
              refine wpAnyH_take (i := 11) (v := ?_) rfl (by kernel_rfl) (by kernel_rfl) (by kernel_rfl) (fun _ _ _ h => h) (Or.inl ⟨by kernel_rfl, ?_⟩) hHeld ?_
              rotate_left
              · intro w hSw
                first | (go_simp; done) | (go_simp; with_reducible rfl)
              try simp only [Act.put, List.getElem_toArray, List.getElem_cons_zero, List.getElem_cons_succ, List.setIfInBounds_toArray, List.set_cons_zero, List.set_cons_succ]
              refine wpAnyH_take (i := 12) (v := ?_) rfl (by kernel_rfl) (by kernel_rfl) (by kernel_rfl) (fun _ _ _ h => h) (Or.inl ⟨by kernel_rfl, ?_⟩) hHeld ?_
              rotate_left
              · intro w hSw
                first | (go_simp; done) | (go_simp; with_reducible rfl)
              try simp only [Act.put, List.getElem_toArray, List.getElem_cons_zero, List.getElem_cons_succ, List.setIfInBounds_toArray, List.set_cons_zero, List.set_cons_succ]
              refine wpAnyH_take (i := 13) (v := ?_) rfl (by kernel_rfl) (by kernel_rfl) (by kernel_rfl) (fun _ _ _ h => h) (Or.inl ⟨by kernel_rfl, ?_⟩) hHeld ?_
              rotate_left
              · intro w hSw
                first | (go_simp; done) | (go_simp; with_reducible rfl)
              try simp only [Act.put, List.getElem_toArray, List.getElem_cons_zero, List.getElem_cons_succ, List.setIfInBounds_toArray, List.set_cons_zero, List.set_cons_succ]
              refine wpAnyH_take (i := 14) (v := ?_) rfl (by kernel_rfl) (by kernel_rfl) (by kernel_rfl) (fun _ _ _ h => h) (Or.inl ⟨by kernel_rfl, ?_⟩) hHeld ?_
              rotate_left
              · intro w hSw
                first | (go_simp; done) | (go_simp; with_reducible rfl)
              try simp only [Act.put, List.getElem_toArray, List.getElem_cons_zero, List.getElem_cons_succ, List.setIfInBounds_toArray, List.set_cons_zero, List.set_cons_succ]
              refine wpAnyH_take (i := 15) (v := ?_) rfl (by kernel_rfl) (by kernel_rfl) (by kernel_rfl) (fun _ _ _ h => h) (Or.inl ⟨by kernel_rfl, ?_⟩) hHeld ?_
              rotate_left
              · intro w hSw
                first | (go_simp; done) | (go_simp; with_reducible rfl)
              try simp only [Act.put, List.getElem_toArray, List.getElem_cons_zero, List.getElem_cons_succ, List.setIfInBounds_toArray, List.set_cons_zero, List.set_cons_succ]
              refine wpAnyH_ready (rs := [16]) (by kernel_rfl) (by simp) ?_
              refine AllReadyH.cons rfl (fun K hK => ?_) AllReadyH.nil
              go_simp
              go_at_call 51
              refine (shape_calls (Hp.blk (Hp.up6 hHeld)) _ _ (SXM.out _ hHeld) (XML.out) (by decide) (by decide) (fun j => by have := XMB.out j; omega)).mono ?_
              rintro e8 w8 ⟨gs, rfl, hgs, hrs, b8⟩
              have H8 := Lib.hid (Hp.add_row hHeld b8 hrs hgs)
              clear hrs b8 hgs
              go_simp
              refine hK.out _ _ (H8.out.drop) (fun hHeld => ?_)
              clear hK K
              try simp only [Act.put, List.getElem_toArray, List.getElem_cons_zero, List.getElem_cons_succ, List.setIfInBounds_toArray, List.set_cons_zero, List.set_cons_succ]
              refine wpAnyH_ready (rs := [17]) (by kernel_rfl) (by simp) ?_
              refine AllReadyH.cons rfl (fun K hK => ?_) AllReadyH.nil
              go_simp
              go_at_call 22
              refine (Forward128 (Hp_lap (H8.out.pk [6, 6])) (by have := Src.of_sl (Sl.row H8.out.row); rw [SML.out] at this; exact this) SML.out SMW.out).mono ?_
              rintro e9 w9 ⟨gl, rfl, hgl, hrl, b9⟩
              have H9 := Lib.hid ((H8.out.drop).add_row b9 hrl hgl)
              clear hrl b9 hgl H8
              go_simp
              refine hK.out _ _ (H9.out.drop) (fun hHeld => ?_)
              clear hK K
              try simp only [Act.put, List.getElem_toArray, List.getElem_cons_zero, List.getElem_cons_succ, List.setIfInBounds_toArray, List.set_cons_zero, List.set_cons_succ]
              refine wpAnyH_take (i := 18) (v := ?_) rfl (by kernel_rfl) (by kernel_rfl) (by kernel_rfl) (fun _ _ _ h => h) (Or.inl ⟨by kernel_rfl, ?_⟩) hHeld ?_
              rotate_left
              · intro w hSw
                first | (go_simp; done) | (go_simp; with_reducible rfl)
              try simp only [Act.put, List.getElem_toArray, List.getElem_cons_zero, List.getElem_cons_succ, List.setIfInBounds_toArray, List.set_cons_zero, List.set_cons_succ]
              refine wpAnyH_take (i := 19) (v := ?_) rfl (by kernel_rfl) (by kernel_rfl) (by kernel_rfl) (fun _ _ _ h => h) (Or.inl ⟨by kernel_rfl, ?_⟩) hHeld ?_
              rotate_left
              · intro w hSw
                first | (go_simp; done) | (go_simp; with_reducible rfl)
              try simp only [Act.put, List.getElem_toArray, List.getElem_cons_zero, List.getElem_cons_succ, List.setIfInBounds_toArray, List.set_cons_zero, List.set_cons_succ]
              refine wpAnyH_take (i := 20) (v := ?_) rfl (by kernel_rfl) (by kernel_rfl) (by kernel_rfl) (fun _ _ _ h => h) (Or.inl ⟨by kernel_rfl, ?_⟩) hHeld ?_
              rotate_left
              · intro w hSw
                first | (go_simp; done) | (go_simp; with_reducible rfl)
              try simp only [Act.put, List.getElem_toArray, List.getElem_cons_zero, List.getElem_cons_succ, List.setIfInBounds_toArray, List.set_cons_zero, List.set_cons_succ]
              refine wpAnyH_take (i := 21) (v := ?_) rfl (by kernel_rfl) (by kernel_rfl) (by kernel_rfl) (fun _ _ _ h => h) (Or.inl ⟨by kernel_rfl, ?_⟩) hHeld ?_
              rotate_left
              · intro w hSw
                first | (go_simp; done) | (go_simp; with_reducible rfl)
              try simp only [Act.put, List.getElem_toArray, List.getElem_cons_zero, List.getElem_cons_succ, List.setIfInBounds_toArray, List.set_cons_zero, List.set_cons_succ]
              refine wpAnyH_take (i := 22) (v := ?_) rfl (by kernel_rfl) (by kernel_rfl) (by kernel_rfl) (fun _ _ _ h => h) (Or.inl ⟨by kernel_rfl, ?_⟩) hHeld ?_
              rotate_left
              · intro w hSw
                first | (go_simp; done) | (go_simp; with_reducible rfl)
              try simp only [Act.put, List.getElem_toArray, List.getElem_cons_zero, List.getElem_cons_succ, List.setIfInBounds_toArray, List.set_cons_zero, List.set_cons_succ]
              refine wpAnyH_done (by kernel_rfl) ?_ _
              refine NoPanic.normal ?_
              clear q0 q1 q2 q3 q4 q5 q6 q7 z4 z5 z6 SXM XML XMB SML SMW
              have H9' : Hid (Hp W w9 (rowA 21 .i32 gl 128 (fwdv 128 4 134217728 (shapev ((X.drop 128).take 256))) :: rowA 21 .i32 go 512 (pf f (fun j => decide (j % 4 < 1) || decide (j % 4 = 1 ∧ j / 4 < 0)) 512) :: anaA a c lo br (.slice A2 D.length c2) :: slA 21 .i32 (.slice A2 D.length c2) D :: slA 21 .i32 (.slice (some ⟨g8, 0, none⟩) 640 c8) X :: lapA lo c 512 1 28 :: lapA br c 128 4 27 :: circA c :: l)) := Lib.hid (by
                have := H9.out
                rw [pf_eq f (fun j => decide (j % 4 < 1)) (fun j => decide (j % 4 < 1) || decide (j % 4 = 1 ∧ j / 4 < 0)) 512 (fun j _ => by simp)] at this
                exact this)
              clear H9 H
              go_wp2_with fail
              go_loopw [102] (fun i wr => ∃ k : Nat, k ≤ 128 ∧ i = .int .i64 (k : Int) ∧ Hid (Hp W wr (rowA 21 .i32 gl 128 (fwdv 128 4 134217728 (shapev ((X.drop 128).take 256))) :: rowA 21 .i32 go 512 (pf f (fun j => decide (j % 4 < 1) || decide (j % 4 = 1 ∧ j / 4 < k)) 512) :: anaA a c lo br (.slice A2 D.length c2) :: slA 21 .i32 (.slice A2 D.length c2) D :: slA 21 .i32 (.slice (some ⟨g8, 0, none⟩) 640 c8) X :: lapA lo c 512 1 28 :: lapA br c 128 4 27 :: circA c :: l))) (fun i _ => 128 - (intOf i).toNat)
              case atStart => exact ⟨0, by omega, rfl, H9'⟩
              case round =>
                clear H9'
                obtain ⟨k, hk, rfl, H⟩ := hrel
                by_cases klt : k < 128
                · have kk : (k : Int) < 128 := by omega
                  have hc := H.out.row.cell (i := k) (by rw [fwdv_len]; exact klt)
                  have e1 : (fwdv 128 4 134217728 (shapev ((X.drop 128).take 256)))[k]'(by rw [fwdv_len]; exact klt) = (fwdv 128 4 134217728 (shapev ((X.drop 128).take 256))).getD k 0 := by rw [List.getD_eq_getElem?_getD, List.getElem?_eq_getElem (by rw [fwdv_len]; exact klt)]; rfl
                  rw [e1] at hc
                  obtain ⟨i1, hi1⟩ : ∃ i1 : Nat, i1 = 4 * k + 1 := ⟨_, rfl⟩
                  have fi : f i1 = (fwdv 128 4 134217728 (shapev ((X.drop 128).take 256))).getD k 0 := by
                    rw [HF.out]
                    show (fwdv 128 4 134217728 (shapev ((X.drop (128 * (i1 % 4))).take 256))).getD (i1 / 4) 0 = _
                    rw [show i1 % 4 = 1 by omega, show i1 / 4 = k by omega]
                  obtain ⟨y, hy⟩ : ∃ y, (fwdv 128 4 134217728 (shapev ((X.drop 128).take 256))).getD k 0 = y := ⟨_, rfl⟩
                  rw [hy] at hc fi
                  have hs := H.out.up1.set i1 (f i1)
                  rw [pf_set f _ (fun j => decide (j % 4 < 1) || decide (j % 4 = 1 ∧ j / 4 < k + 1)) _ _ (fun j hj => by rw [Bool.eq_iff_iff]; simp; omega), fi] at hs
                  have HS := Lib.hid hs.up1
                  have fr := H.out.up1.row.free i1
                  have fc := H.out.up1.row.cell (i := i1) (by rw [pf_len]; omega)
                  rw [pf_get] at fc
                  obtain ⟨vv, hvv⟩ : ∃ vv, (if (decide (i1 % 4 < 1) || decide (i1 % 4 = 1 ∧ i1 / 4 < k)) = true then f i1 else 0) = vv := ⟨_, rfl⟩
                  rw [hvv] at fc
                  have e2 : (4 * (k : Int) + 1).toNat = i1 := by omega
                  have e3 : (4 * (k : Int)).toNat = i1 - 1 := by omega
                  have l1 : i1 < 512 := by omega
                  clear hs hy fi e1 hvv hi1
                  go_wp2_with fail
                  go_roundw
                  case rel => exact ⟨k + 1, by omega, by go_num, HS⟩
                  case measure => simp [intOf]; omega
                · obtain rfl : k = 128 := by omega
                  have h7 := H.out.drop
                  rw [pf_eq f _ (fun j => decide (j % 4 < 1 + 1)) 512 (fun j hj => by rw [Bool.eq_iff_iff]; simp; omega)] at h7
                  have H7 := Lib.hid h7
                  clear h7 H
                  go_wp2_with fail
                  go_roundw
                  case rel => exact ⟨1 + 1, by omega, by first | rfl | go_num, H7⟩
                  case measure => simp [intOf]
            · go_wp2_with fail
              have q0 : IntKind.i64.wrap (2 * 128) = 256 := by decide
              have q1 : IntKind.i64.wrap (2 + 2) = 4 := by decide
              have q2 : IntKind.i64.wrap (4 * 128) = 512 := by decide
              have q3 : IntKind.i64.wrap 0 = 0 := by decide
              have q4 : IntKind.i64.wrap 2 = 2 := by decide
              have q5 : IntKind.i64.wrap 256 = 256 := by decide
              have q6 : IntKind.i64.wrap 4 = 4 := by decide
              have q7 : IntKind.i64.wrap 512 = 512 := by decide
              have z4 : (512 : Int) ≤ (c8 : Int) := by omega
              have z5 : ¬ c8 = 256 := by omega
              have z6 : 512 ≤ c8 := by omega
              have XML : Hid (((X.drop 256).take 256).length = 256) := Lib.hid (by rw [List.length_take, List.length_drop, XL.out]; rfl)
              have XMB : Hid (∀ j, -524288 ≤ ((X.drop 256).take 256).getD j 0 ∧ ((X.drop 256).take 256).getD j 0 ≤ 524288) := Lib.hid (sub_bd (by decide) XB.out _ _)
              have SXM : Hid (∀ w5, Hp W w5 (rowA 21 .i32 go 512 (pf f (fun j => decide (j % 4 < 2)) 512) :: anaA a c lo br (.slice A2 D.length c2) :: slA 21 .i32 (.slice A2 D.length c2) D :: slA 21 .i32 (.slice (some ⟨g8, 0, none⟩) 640 c8) X :: lapA lo c 512 1 28 :: lapA br c 128 4 27 :: circA c :: l) → Src w5 .i32 (.slice (some ⟨g8, 256, none⟩) 256 (c8 - 256)) ((X.drop 256).take 256)) := Lib.hid (fun w5 h5 => Src_sub h5.up3.sl rfl _ _ _ (by rw [XL.out]; decide) (by decide))
              have SML : Hid ((shapev ((X.drop 256).take 256)).length = 256) := Lib.hid (by unfold shapev; rw [List.length_map, List.length_range]; exact XML.out)
              have SMW : Hid (within 1048576 (shapev ((X.drop 256).take 256)) = true) := Lib.hid (within_shape' XMB.out)
              refine wp_region_noPanic ?_
              refine wp_region_any (by kernel_rfl) ?_
              try (change wpAny _ _ _ _ _ _ _ (World.drew _))
              refine wpAny_of_held (S := fun w5 => Hp W w5 (rowA 21 .i32 go 512 (pf f (fun j => decide (j % 4 < 2)) 512) :: anaA a c lo br (.slice A2 D.length c2) :: slA 21 .i32 (.slice A2 D.length c2) D :: slA 21 .i32 (.slice (some ⟨g8, 0, none⟩) 640 c8) X :: lapA lo c 512 1 28 :: lapA br c 128 4 27 :: circA c :: l)) _ _ _ _ ?_
              have hHeld := H.out.drew
              refine wpAnyH_take (i := 0) (v := ?_) rfl (by kernel_rfl) (by kernel_rfl) (by kernel_rfl) (fun _ _ _ h => h) (Or.inl ⟨by kernel_rfl, ?_⟩) hHeld ?_
              rotate_left
              · intro w hSw
                first | (go_simp; done) | (go_simp; with_reducible rfl)
              try simp only [Act.put, List.getElem_toArray, List.getElem_cons_zero, List.getElem_cons_succ, List.setIfInBounds_toArray, List.set_cons_zero, List.set_cons_succ]
              refine wpAnyH_take (i := 1) (v := ?_) rfl (by kernel_rfl) (by kernel_rfl) (by kernel_rfl) (fun _ _ _ h => h) (Or.inl ⟨by kernel_rfl, ?_⟩) hHeld ?_
              rotate_left
              · intro w hSw
                first | (go_simp; done) | (go_simp; with_reducible rfl)
              try simp only [Act.put, List.getElem_toArray, List.getElem_cons_zero, List.getElem_cons_succ, List.setIfInBounds_toArray, List.set_cons_zero, List.set_cons_succ]
              refine wpAnyH_take (i := 2) (v := ?_) rfl (by kernel_rfl) (by kernel_rfl) (by kernel_rfl) (fun _ _ _ h => h) (Or.inl ⟨by kernel_rfl, ?_⟩) hHeld ?_
              rotate_left
              · intro w hSw
                first | (go_simp; done) | (go_simp; with_reducible rfl)
              try simp only [Act.put, List.getElem_toArray, List.getElem_cons_zero, List.getElem_cons_succ, List.setIfInBounds_toArray, List.set_cons_zero, List.set_cons_succ]
              refine wpAnyH_take (i := 3) (v := ?_) rfl (by kernel_rfl) (by kernel_rfl) (by kernel_rfl) (fun _ _ _ h => h) (Or.inl ⟨by kernel_rfl, ?_⟩) hHeld ?_
              rotate_left
              · intro w hSw
                first | (go_simp; done) | (go_simp; with_reducible rfl)
              try simp only [Act.put, List.getElem_toArray, List.getElem_cons_zero, List.getElem_cons_succ, List.setIfInBounds_toArray, List.set_cons_zero, List.set_cons_succ]
              refine wpAnyH_take (i := 4) (v := ?_) rfl (by kernel_rfl) (by kernel_rfl) (by kernel_rfl) (fun _ _ _ h => h) (Or.inl ⟨by kernel_rfl, ?_⟩) hHeld ?_
              rotate_left
              · intro w hSw
                have d0 := (Hp.blk (Hp.up1 hSw)).cell (i := 0) rfl
                have d1 := (Hp.blk (Hp.up1 hSw)).cell (i := 1) rfl
                have d2 := (Hp.blk (Hp.up1 hSw)).cell (i := 2) rfl
                first | (go_simp; done) | (go_simp; with_reducible rfl)
              try simp only [Act.put, List.getElem_toArray, List.getElem_cons_zero, List.getElem_cons_succ, List.setIfInBounds_toArray, List.set_cons_zero, List.set_cons_succ]
              refine wpAnyH_take (i := 5) (v := ?_) rfl (by kernel_rfl) (by kernel_rfl) (by kernel_rfl) (fun _ _ _ h => h) (Or.inl ⟨by kernel_rfl, ?_⟩) hHeld ?_
              rotate_left
              · intro w hSw
                first | (go_simp; done) | (go_simp; with_reducible rfl)
              try simp only [Act.put, List.getElem_toArray, List.getElem_cons_zero, List.getElem_cons_succ, List.setIfInBounds_toArray, List.set_cons_zero, List.set_cons_succ]
              refine wpAnyH_take (i := 6) (v := ?_) rfl (by kernel_rfl) (by kernel_rfl) (by kernel_rfl) (fun _ _ _ h => h) (Or.inl ⟨by kernel_rfl, ?_⟩) hHeld ?_
              rotate_left
              · intro w hSw
                first | (go_simp; done) | (go_simp; with_reducible rfl)
              try simp only [Act.put, List.getElem_toArray, List.getElem_cons_zero, List.getElem_cons_succ, List.setIfInBounds_toArray, List.set_cons_zero, List.set_cons_succ]
              refine wpAnyH_take (i := 7) (v := ?_) rfl (by kernel_rfl) (by kernel_rfl) (by kernel_rfl) (fun _ _ _ h => h) (Or.inl ⟨by kernel_rfl, ?_⟩) hHeld ?_
              rotate_left
              · intro w hSw
                first | (go_simp; done) | (go_simp; with_reducible rfl)
              try simp only [Act.put, List.getElem_toArray, List.getElem_cons_zero, List.getElem_cons_succ, List.setIfInBounds_toArray, List.set_cons_zero, List.set_cons_succ]
              refine wpAnyH_take (i := 8) (v := ?_) rfl (by kernel_rfl) (by kernel_rfl) (by kernel_rfl) (fun _ _ _ h => h) (Or.inl ⟨by kernel_rfl, ?_⟩) hHeld ?_
              rotate_left
              · intro w hSw
                have d0 := (Hp.blk (Hp.up1 hSw)).cell (i := 0) rfl
                have d1 := (Hp.blk (Hp.up1 hSw)).cell (i := 1) rfl
                have d2 := (Hp.blk (Hp.up1 hSw)).cell (i := 2) rfl
                first | (go_simp; done) | (go_simp; with_reducible rfl)
              try simp only [Act.put, List.getElem_toArray, List.getElem_cons_zero, List.getElem_cons_succ, List.setIfInBounds_toArray, List.set_cons_zero, List.set_cons_succ]
              refine wpAnyH_take (i := 9) (v := ?_) rfl (by kernel_rfl) (by kernel_rfl) (by kernel_rfl) (fun _ _ _ h => h) (Or.inl ⟨by kernel_rfl, ?_⟩) hHeld ?_
              rotate_left
              · intro w hSw
                first | (go_simp; done) | (go_simp; with_reducible rfl)
              try simp only [Act.put, List.getElem_toArray, List.getElem_cons_zero, List.getElem_cons_succ, List.setIfInBounds_toArray, List.set_cons_zero, List.set_cons_succ]
              refine wpAnyH_take (i := 10) (v := ?_) rfl (by kernel_rfl) (by kernel_rfl) (by kernel_rfl) (fun _ _ _ h => h) (Or.inl ⟨by kernel_rfl, ?_⟩) hHeld ?_
              rotate_left
              · intro w hSw
                first | (go_simp; done) | (go_simp; with_reducible rfl)
              try simp only [Act.put, List.getElem_toArray, List.getElem_cons_zero, List.getElem_cons_succ, List.setIfInBounds_toArray, List.set_cons_zero, List.set_cons_succ]
              refine wpAnyH_take (i := 11) (v := ?_) rfl (by kernel_rfl) (by kernel_rfl) (by kernel_rfl) (fun _ _ _ h => h) (Or.inl ⟨by kernel_rfl, ?_⟩) hHeld ?_
              rotate_left
              · intro w hSw
                first | (go_simp; done) | (go_simp; with_reducible rfl)
              try simp only [Act.put, List.getElem_toArray, List.getElem_cons_zero, List.getElem_cons_succ, List.setIfInBounds_toArray, List.set_cons_zero, List.set_cons_succ]
              refine wpAnyH_take (i := 12) (v := ?_) rfl (by kernel_rfl) (by kernel_rfl) (by kernel_rfl) (fun _ _ _ h => h) (Or.inl ⟨by kernel_rfl, ?_⟩) hHeld ?_
              rotate_left
              · intro w hSw
                first | (go_simp; done) | (go_simp; with_reducible rfl)
              try simp only [Act.put, List.getElem_toArray, List.getElem_cons_zero, List.getElem_cons_succ, List.setIfInBounds_toArray, List.set_cons_zero, List.set_cons_succ]
              refine wpAnyH_take (i := 13) (v := ?_) rfl (by kernel_rfl) (by kernel_rfl) (by kernel_rfl) (fun _ _ _ h => h) (Or.inl ⟨by kernel_rfl, ?_⟩) hHeld ?_
              rotate_left
              · intro w hSw
                first | (go_simp; done) | (go_simp; with_reducible rfl)
              try simp only [Act.put, List.getElem_toArray, List.getElem_cons_zero, List.getElem_cons_succ, List.setIfInBounds_toArray, List.set_cons_zero, List.set_cons_succ]
              refine wpAnyH_take (i := 14) (v := ?_) rfl (by kernel_rfl) (by kernel_rfl) (by kernel_rfl) (fun _ _ _ h => h) (Or.inl ⟨by kernel_rfl, ?_⟩) hHeld ?_
              rotate_left
              · intro w hSw
                first | (go_simp; done) | (go_simp; with_reducible rfl)
              try simp only [Act.put, List.getElem_toArray, List.getElem_cons_zero, List.getElem_cons_succ, List.setIfInBounds_toArray, List.set_cons_zero, List.set_cons_succ]
              refine wpAnyH_take (i := 15) (v := ?_) rfl (by kernel_rfl) (by kernel_rfl) (by kernel_rfl) (fun _ _ _ h => h) (Or.inl ⟨by kernel_rfl, ?_⟩) hHeld ?_
              rotate_left
              · intro w hSw
                first | (go_simp; done) | (go_simp; with_reducible rfl)
              try simp only [Act.put, List.getElem_toArray, List.getElem_cons_zero, List.getElem_cons_succ, List.setIfInBounds_toArray, List.set_cons_zero, List.set_cons_succ]
              refine wpAnyH_ready (rs := [16]) (by kernel_rfl) (by simp) ?_
              refine AllReadyH.cons rfl (fun K hK => ?_) AllReadyH.nil
              go_simp
              go_at_call 51
              refine (shape_calls (Hp.blk (Hp.up6 hHeld)) _ _ (SXM.out _ hHeld) (XML.out) (by decide) (by decide) (fun j => by have := XMB.out j; omega)).mono ?_
              rintro e8 w8 ⟨gs, rfl, hgs, hrs, b8⟩
              have H8 := Lib.hid (Hp.add_row hHeld b8 hrs hgs)
              clear hrs b8 hgs
              go_simp
              refine hK.out _ _ (H8.out.drop) (fun hHeld => ?_)
              clear hK K
              try simp only [Act.put, List.getElem_toArray, List.getElem_cons_zero, List.getElem_cons_succ, List.setIfInBounds_toArray, List.set_cons_zero, List.set_cons_succ]
              refine wpAnyH_ready (rs := [17]) (by kernel_rfl) (by simp) ?_
              refine AllReadyH.cons rfl (fun K hK => ?_) AllReadyH.nil
              go_simp
              go_at_call 22
              refine (Forward128 (Hp_lap (H8.out.pk [6, 6])) (by have := Src.of_sl (Sl.row H8.out.row); rw [SML.out] at this; exact this) SML.out SMW.out).mono ?_
              rintro e9 w9 ⟨gl, rfl, hgl, hrl, b9⟩
              have H9 := Lib.hid ((H8.out.drop).add_row b9 hrl hgl)
              clear hrl b9 hgl H8
              go_simp
              refine hK.out _ _ (H9.out.drop) (fun hHeld => ?_)
              clear hK K
              try simp only [Act.put, List.getElem_toArray, List.getElem_cons_zero, List.getElem_cons_succ, List.setIfInBounds_toArray, List.set_cons_zero, List.set_cons_succ]
              refine wpAnyH_take (i := 18) (v := ?_) rfl (by kernel_rfl) (by kernel_rfl) (by kernel_rfl) (fun _ _ _ h => h) (Or.inl ⟨by kernel_rfl, ?_⟩) hHeld ?_
              rotate_left
              · intro w hSw
                first | (go_simp; done) | (go_simp; with_reducible rfl)
              try simp only [Act.put, List.getElem_toArray, List.getElem_cons_zero, List.getElem_cons_succ, List.setIfInBounds_toArray, List.set_cons_zero, List.set_cons_succ]
              refine wpAnyH_take (i := 19) (v := ?_) rfl (by kernel_rfl) (by kernel_rfl) (by kernel_rfl) (fun _ _ _ h => h) (Or.inl ⟨by kernel_rfl, ?_⟩) hHeld ?_
              rotate_left
              · intro w hSw
                first | (go_simp; done) | (go_simp; with_reducible rfl)
              try simp only [Act.put, List.getElem_toArray, List.getElem_cons_zero, List.getElem_cons_succ, List.setIfInBounds_toArray, List.set_cons_zero, List.set_cons_succ]
              refine wpAnyH_take (i := 20) (v := ?_) rfl (by kernel_rfl) (by kernel_rfl) (by kernel_rfl) (fun _ _ _ h => h) (Or.inl ⟨by kernel_rfl, ?_⟩) hHeld ?_
              rotate_left
              · intro w hSw
                first | (go_simp; done) | (go_simp; with_reducible rfl)
              try simp only [Act.put, List.getElem_toArray, List.getElem_cons_zero, List.getElem_cons_succ, List.setIfInBounds_toArray, List.set_cons_zero, List.set_cons_succ]
              refine wpAnyH_take (i := 21) (v := ?_) rfl (by kernel_rfl) (by kernel_rfl) (by kernel_rfl) (fun _ _ _ h => h) (Or.inl ⟨by kernel_rfl, ?_⟩) hHeld ?_
              rotate_left
              · intro w hSw
                first | (go_simp; done) | (go_simp; with_reducible rfl)
              try simp only [Act.put, List.getElem_toArray, List.getElem_cons_zero, List.getElem_cons_succ, List.setIfInBounds_toArray, List.set_cons_zero, List.set_cons_succ]
              refine wpAnyH_take (i := 22) (v := ?_) rfl (by kernel_rfl) (by kernel_rfl) (by kernel_rfl) (fun _ _ _ h => h) (Or.inl ⟨by kernel_rfl, ?_⟩) hHeld ?_
              rotate_left
              · intro w hSw
                first | (go_simp; done) | (go_simp; with_reducible rfl)
              try simp only [Act.put, List.getElem_toArray, List.getElem_cons_zero, List.getElem_cons_succ, List.setIfInBounds_toArray, List.set_cons_zero, List.set_cons_succ]
              refine wpAnyH_done (by kernel_rfl) ?_ _
              refine NoPanic.normal ?_
              clear q0 q1 q2 q3 q4 q5 q6 q7 z4 z5 z6 SXM XML XMB SML SMW
              have H9' : Hid (Hp W w9 (rowA 21 .i32 gl 128 (fwdv 128 4 134217728 (shapev ((X.drop 256).take 256))) :: rowA 21 .i32 go 512 (pf f (fun j => decide (j % 4 < 2) || decide (j % 4 = 2 ∧ j / 4 < 0)) 512) :: anaA a c lo br (.slice A2 D.length c2) :: slA 21 .i32 (.slice A2 D.length c2) D :: slA 21 .i32 (.slice (some ⟨g8, 0, none⟩) 640 c8) X :: lapA lo c 512 1 28 :: lapA br c 128 4 27 :: circA c :: l)) := Lib.hid (by
                have := H9.out
                rw [pf_eq f (fun j => decide (j % 4 < 2)) (fun j => decide (j % 4 < 2) || decide (j % 4 = 2 ∧ j / 4 < 0)) 512 (fun j _ => by simp)] at this
                exact this)
              clear H9 H
              go_wp2_with fail
              go_loopw [102] (fun i wr => ∃ k : Nat, k ≤ 128 ∧ i = .int .i64 (k : Int) ∧ Hid (Hp W wr (rowA 21 .i32 gl 128 (fwdv 128 4 134217728 (shapev ((X.drop 256).take 256))) :: rowA 21 .i32 go 512 (pf f (fun j => decide (j % 4 < 2) || decide (j % 4 = 2 ∧ j / 4 < k)) 512) :: anaA a c lo br (.slice A2 D.length c2) :: slA 21 .i32 (.slice A2 D.length c2) D :: slA 21 .i32 (.slice (some ⟨g8, 0, none⟩) 640 c8) X :: lapA lo c 512 1 28 :: lapA br c 128 4 27 :: circA c :: l))) (fun i _ => 128 - (intOf i).toNat)
              case atStart => exact ⟨0, by omega, rfl, H9'⟩
              case round =>
                clear H9'
                obtain ⟨k, hk, rfl, H⟩ := hrel
                by_cases klt : k < 128
                · have kk : (k : Int) < 128 := by omega
                  have hc := H.out.row.cell (i := k) (by rw [fwdv_len]; exact klt)
                  have e1 : (fwdv 128 4 134217728 (shapev ((X.drop 256).take 256)))[k]'(by rw [fwdv_len]; exact klt) = (fwdv 128 4 134217728 (shapev ((X.drop 256).take 256))).getD k 0 := by rw [List.getD_eq_getElem?_getD, List.getElem?_eq_getElem (by rw [fwdv_len]; exact klt)]; rfl
                  rw [e1] at hc
                  obtain ⟨i1, hi1⟩ : ∃ i1 : Nat, i1 = 4 * k + 2 := ⟨_, rfl⟩
                  have fi : f i1 = (fwdv 128 4 134217728 (shapev ((X.drop 256).take 256))).getD k 0 := by
                    rw [HF.out]
                    show (fwdv 128 4 134217728 (shapev ((X.drop (128 * (i1 % 4))).take 256))).getD (i1 / 4) 0 = _
                    rw [show i1 % 4 = 2 by omega, show i1 / 4 = k by omega]
                  obtain ⟨y, hy⟩ : ∃ y, (fwdv 128 4 134217728 (shapev ((X.drop 256).take 256))).getD k 0 = y := ⟨_, rfl⟩
                  rw [hy] at hc fi
                  have hs := H.out.up1.set i1 (f i1)
                  rw [pf_set f _ (fun j => decide (j % 4 < 2) || decide (j % 4 = 2 ∧ j / 4 < k + 1)) _ _ (fun j hj => by rw [Bool.eq_iff_iff]; simp; omega), fi] at hs
                  have HS := Lib.hid hs.up1
                  have fr := H.out.up1.row.free i1
                  have fc := H.out.up1.row.cell (i := i1) (by rw [pf_len]; omega)
                  rw [pf_get] at fc
                  obtain ⟨vv, hvv⟩ : ∃ vv, (if (decide (i1 % 4 < 2) || decide (i1 % 4 = 2 ∧ i1 / 4 < k)) = true then f i1 else 0) = vv := ⟨_, rfl⟩
                  rw [hvv] at fc
                  have e2 : (4 * (k : Int) + 2).toNat = i1 := by omega
                  have e3 : (4 * (k : Int)).toNat = i1 - 2 := by omega
                  have l1 : i1 < 512 := by omega
                  clear hs hy fi e1 hvv hi1
                  go_wp2_with fail
                  go_roundw
                  case rel => exact ⟨k + 1, by omega, by go_num, HS⟩
                  case measure => simp [intOf]; omega
                · obtain rfl : k = 128 := by omega
                  have h7 := H.out.drop
                  rw [pf_eq f _ (fun j => decide (j % 4 < 2 + 1)) 512 (fun j hj => by rw [Bool.eq_iff_iff]; simp; omega)] at h7
                  have H7 := Lib.hid h7
                  clear h7 H
                  go_wp2_with fail
                  go_roundw
                  case rel => exact ⟨2 + 1, by omega, by first | rfl | go_num, H7⟩
                  case measure => simp [intOf]
            · go_wp2_with fail
              have q0 : IntKind.i64.wrap (3 * 128) = 384 := by decide
              have q1 : IntKind.i64.wrap (3 + 2) = 5 := by decide
              have q2 : IntKind.i64.wrap (5 * 128) = 640 := by decide
              have q3 : IntKind.i64.wrap 0 = 0 := by decide
              have q4 : IntKind.i64.wrap 3 = 3 := by decide
              have q5 : IntKind.i64.wrap 384 = 384 := by decide
              have q6 : IntKind.i64.wrap 5 = 5 := by decide
              have q7 : IntKind.i64.wrap 640 = 640 := by decide
              have z4 : (640 : Int) ≤ (c8 : Int) := by omega
              have z5 : ¬ c8 = 384 := by omega
              have z6 : 640 ≤ c8 := by omega
              have XML : Hid (((X.drop 384).take 256).length = 256) := Lib.hid (by rw [List.length_take, List.length_drop, XL.out]; rfl)
              have XMB : Hid (∀ j, -524288 ≤ ((X.drop 384).take 256).getD j 0 ∧ ((X.drop 384).take 256).getD j 0 ≤ 524288) := Lib.hid (sub_bd (by decide) XB.out _ _)
              have SXM : Hid (∀ w5, Hp W w5 (rowA 21 .i32 go 512 (pf f (fun j => decide (j % 4 < 3)) 512) :: anaA a c lo br (.slice A2 D.length c2) :: slA 21 .i32 (.slice A2 D.length c2) D :: slA 21 .i32 (.slice (some ⟨g8, 0, none⟩) 640 c8) X :: lapA lo c 512 1 28 :: lapA br c 128 4 27 :: circA c :: l) → Src w5 .i32 (.slice (some ⟨g8, 384, none⟩) 256 (c8 - 384)) ((X.drop 384).take 256)) := Lib.hid (fun w5 h5 => Src_sub h5.up3.sl rfl _ _ _ (by rw [XL.out]; decide) (by decide))
              have SML : Hid ((shapev ((X.drop 384).take 256)).length = 256) := Lib.hid (by unfold shapev; rw [List.length_map, List.length_range]; exact XML.out)
              have SMW : Hid (within 1048576 (shapev ((X.drop 384).take 256)) = true) := Lib.hid (within_shape' XMB.out)
              refine wp_region_noPanic ?_
              refine wp_region_any (by kernel_rfl) ?_
              try (change wpAny _ _ _ _ _ _ _ (World.drew _))
              refine wpAny_of_held (S := fun w5 => Hp W w5 (rowA 21 .i32 go 512 (pf f (fun j => decide (j % 4 < 3)) 512) :: anaA a c lo br (.slice A2 D.length c2) :: slA 21 .i32 (.slice A2 D.length c2) D :: slA 21 .i32 (.slice (some ⟨g8, 0, none⟩) 640 c8) X :: lapA lo c 512 1 28 :: lapA br c 128 4 27 :: circA c :: l)) _ _ _ _ ?_
              have hHeld := H.out.drew
              refine wpAnyH_take (i := 0) (v := ?_) rfl (by kernel_rfl) (by kernel_rfl) (by kernel_rfl) (fun _ _ _ h => h) (Or.inl ⟨by kernel_rfl, ?_⟩) hHeld ?_
              rotate_left
              · intro w hSw
                first | (go_simp; done) | (go_simp; with_reducible rfl)
              try simp only [Act.put, List.getElem_toArray, List.getElem_cons_zero, List.getElem_cons_succ, List.setIfInBounds_toArray, List.set_cons_zero, List.set_cons_succ]
              refine wpAnyH_take (i := 1) (v := ?_) rfl (by kernel_rfl) (by kernel_rfl) (by kernel_rfl) (fun _ _ _ h => h) (Or.inl ⟨by kernel_rfl, ?_⟩) hHeld ?_
              rotate_left
              · intro w hSw
                first | (go_simp; done) | (go_simp; with_reducible rfl)
              try simp only [Act.put, List.getElem_toArray, List.getElem_cons_zero, List.getElem_cons_succ, List.setIfInBounds_toArray, List.set_cons_zero, List.set_cons_succ]
              refine wpAnyH_take (i := 2) (v := ?_) rfl (by kernel_rfl) (by kernel_rfl) (by kernel_rfl) (fun _ _ _ h => h) (Or.inl ⟨by kernel_rfl, ?_⟩) hHeld ?_
              rotate_left
              · intro w hSw
                first | (go_simp; done) | (go_simp; with_reducible rfl)
              try simp only [Act.put, List.getElem_toArray, List.getElem_cons_zero, List.getElem_cons_succ, List.setIfInBounds_toArray, List.set_cons_zero, List.set_cons_succ]
              refine wpAnyH_take (i := 3) (v := ?_) rfl (by kernel_rfl) (by kernel_rfl) (by kernel_rfl) (fun _ _ _ h => h) (Or.inl ⟨by kernel_rfl, ?_⟩) hHeld ?_
              rotate_left
              · intro w hSw
                first | (go_simp; done) | (go_simp; with_reducible rfl)
              try simp only [Act.put, List.getElem_toArray, List.getElem_cons_zero, List.getElem_cons_succ, List.setIfInBounds_toArray, List.set_cons_zero, List.set_cons_succ]
              refine wpAnyH_take (i := 4) (v := ?_) rfl (by kernel_rfl) (by kernel_rfl) (by kernel_rfl) (fun _ _ _ h => h) (Or.inl ⟨by kernel_rfl, ?_⟩) hHeld ?_
              rotate_left
              · intro w hSw
                have d0 := (Hp.blk (Hp.up1 hSw)).cell (i := 0) rfl
                have d1 := (Hp.blk (Hp.up1 hSw)).cell (i := 1) rfl
                have d2 := (Hp.blk (Hp.up1 hSw)).cell (i := 2) rfl
                first | (go_simp; done) | (go_simp; with_reducible rfl)
              try simp only [Act.put, List.getElem_toArray, List.getElem_cons_zero, List.getElem_cons_succ, List.setIfInBounds_toArray, List.set_cons_zero, List.set_cons_succ]
              refine wpAnyH_take (i := 5) (v := ?_) rfl (by kernel_rfl) (by kernel_rfl) (by kernel_rfl) (fun _ _ _ h => h) (Or.inl ⟨by kernel_rfl, ?_⟩) hHeld ?_
              rotate_left
              · intro w hSw
                first | (go_simp; done) | (go_simp; with_reducible rfl)
              try simp only [Act.put, List.getElem_toArray, List.getElem_cons_zero, List.getElem_cons_succ, List.setIfInBounds_toArray, List.set_cons_zero, List.set_cons_succ]
              refine wpAnyH_take (i := 6) (v := ?_) rfl (by kernel_rfl) (by kernel_rfl) (by kernel_rfl) (fun _ _ _ h => h) (Or.inl ⟨by kernel_rfl, ?_⟩) hHeld ?_
              rotate_left
              · intro w hSw
                first | (go_simp; done) | (go_simp; with_reducible rfl)
              try simp only [Act.put, List.getElem_toArray, List.getElem_cons_zero, List.getElem_cons_succ, List.setIfInBounds_toArray, List.set_cons_zero, List.set_cons_succ]
              refine wpAnyH_take (i := 7) (v := ?_) rfl (by kernel_rfl) (by kernel_rfl) (by kernel_rfl) (fun _ _ _ h => h) (Or.inl ⟨by kernel_rfl, ?_⟩) hHeld ?_
              rotate_left
              · intro w hSw
                first | (go_simp; done) | (go_simp; with_reducible rfl)
              try simp only [Act.put, List.getElem_toArray, List.getElem_cons_zero, List.getElem_cons_succ, List.setIfInBounds_toArray, List.set_cons_zero, List.set_cons_succ]
              refine wpAnyH_take (i := 8) (v := ?_) rfl (by kernel_rfl) (by kernel_rfl) (by kernel_rfl) (fun _ _ _ h => h) (Or.inl ⟨by kernel_rfl, ?_⟩) hHeld ?_
              rotate_left
              · intro w hSw
                have d0 := (Hp.blk (Hp.up1 hSw)).cell (i := 0) rfl
                have d1 := (Hp.blk (Hp.up1 hSw)).cell (i := 1) rfl
                have d2 := (Hp.blk (Hp.up1 hSw)).cell (i := 2) rfl
                first | (go_simp; done) | (go_simp; with_reducible rfl)
              try simp only [Act.put, List.getElem_toArray, List.getElem_cons_zero, List.getElem_cons_succ, List.setIfInBounds_toArray, List.set_cons_zero, List.set_cons_succ]
              refine wpAnyH_take (i := 9) (v := ?_) rfl (by kernel_rfl) (by kernel_rfl) (by kernel_rfl) (fun _ _ _ h => h) (Or.inl ⟨by kernel_rfl, ?_⟩) hHeld ?_
              rotate_left
              · intro w hSw
                first | (go_simp; done) | (go_simp; with_reducible rfl)
              try simp only [Act.put, List.getElem_toArray, List.getElem_cons_zero, List.getElem_cons_succ, List.setIfInBounds_toArray, List.set_cons_zero, List.set_cons_succ]
              refine wpAnyH_take (i := 10) (v := ?_) rfl (by kernel_rfl) (by kernel_rfl) (by kernel_rfl) (fun _ _ _ h => h) (Or.inl ⟨by kernel_rfl, ?_⟩) hHeld ?_
              rotate_left
              · intro w hSw
                first | (go_simp; done) | (go_simp; with_reducible rfl)
              try simp only [Act.put, List.getElem_toArray, List.getElem_cons_zero, List.getElem_cons_succ, List.setIfInBounds_toArray, List.set_cons_zero, List.set_cons_succ]
              refine wpAnyH_take (i := 11) (v := ?_) rfl (by kernel_rfl) (by kernel_rfl) (by kernel_rfl) (fun _ _ _ h => h) (Or.inl ⟨by kernel_rfl, ?_⟩) hHeld ?_
              rotate_left
              · intro w hSw
                first | (go_simp; done) | (go_simp; with_reducible rfl)
              try simp only [Act.put, List.getElem_toArray, List.getElem_cons_zero, List.getElem_cons_succ, List.setIfInBounds_toArray, List.set_cons_zero, List.set_cons_succ]
              refine wpAnyH_take (i := 12) (v := ?_) rfl (by kernel_rfl) (by kernel_rfl) (by kernel_rfl) (fun _ _ _ h => h) (Or.inl ⟨by kernel_rfl, ?_⟩) hHeld ?_
              rotate_left
              · intro w hSw
                first | (go_simp; done) | (go_simp; with_reducible rfl)
              try simp only [Act.put, List.getElem_toArray, List.getElem_cons_zero, List.getElem_cons_succ, List.setIfInBounds_toArray, List.set_cons_zero, List.set_cons_succ]
              refine wpAnyH_take (i := 13) (v := ?_) rfl (by kernel_rfl) (by kernel_rfl) (by kernel_rfl) (fun _ _ _ h => h) (Or.inl ⟨by kernel_rfl, ?_⟩) hHeld ?_
              rotate_left
              · intro w hSw
                first | (go_simp; done) | (go_simp; with_reducible rfl)
              try simp only [Act.put, List.getElem_toArray, List.getElem_cons_zero, List.getElem_cons_succ, List.setIfInBounds_toArray, List.set_cons_zero, List.set_cons_succ]
              refine wpAnyH_take (i := 14) (v := ?_) rfl (by kernel_rfl) (by kernel_rfl) (by kernel_rfl) (fun _ _ _ h => h) (Or.inl ⟨by kernel_rfl, ?_⟩) hHeld ?_
              rotate_left
              · intro w hSw
                first | (go_simp; done) | (go_simp; with_reducible rfl)
              try simp only [Act.put, List.getElem_toArray, List.getElem_cons_zero, List.getElem_cons_succ, List.setIfInBounds_toArray, List.set_cons_zero, List.set_cons_succ]
              refine wpAnyH_take (i := 15) (v := ?_) rfl (by kernel_rfl) (by kernel_rfl) (by kernel_rfl) (fun _ _ _ h => h) (Or.inl ⟨by kernel_rfl, ?_⟩) hHeld ?_
              rotate_left
              · intro w hSw
                first | (go_simp; done) | (go_simp; with_reducible rfl)
              try simp only [Act.put, List.getElem_toArray, List.getElem_cons_zero, List.getElem_cons_succ, List.setIfInBounds_toArray, List.set_cons_zero, List.set_cons_succ]
              refine wpAnyH_ready (rs := [16]) (by kernel_rfl) (by simp) ?_
              refine AllReadyH.cons rfl (fun K hK => ?_) AllReadyH.nil
              go_simp
              go_at_call 51
              refine (shape_calls (Hp.blk (Hp.up6 hHeld)) _ _ (SXM.out _ hHeld) (XML.out) (by decide) (by decide) (fun j => by have := XMB.out j; omega)).mono ?_
              rintro e8 w8 ⟨gs, rfl, hgs, hrs, b8⟩
              have H8 := Lib.hid (Hp.add_row hHeld b8 hrs hgs)
              clear hrs b8 hgs
              go_simp
              refine hK.out _ _ (H8.out.drop) (fun hHeld => ?_)
              clear hK K
              try simp only [Act.put, List.getElem_toArray, List.getElem_cons_zero, List.getElem_cons_succ, List.setIfInBounds_toArray, List.set_cons_zero, List.set_cons_succ]
              refine wpAnyH_ready (rs := [17]) (by kernel_rfl) (by simp) ?_
              refine AllReadyH.cons rfl (fun K hK => ?_) AllReadyH.nil
              go_simp
              go_at_call 22
              refine (Forward128 (Hp_lap (H8.out.pk [6, 6])) (by have := Src.of_sl (Sl.row H8.out.row); rw [SML.out] at this; exact this) SML.out SMW.out).mono ?_
              rintro e9 w9 ⟨gl, rfl, hgl, hrl, b9⟩
              have H9 := Lib.hid ((H8.out.drop).add_row b9 hrl hgl)
              clear hrl b9 hgl H8
              go_simp
              refine hK.out _ _ (H9.out.drop) (fun hHeld => ?_)
              clear hK K
              try simp only [Act.put, List.getElem_toArray, List.getElem_cons_zero, List.getElem_cons_succ, List.setIfInBounds_toArray, List.set_cons_zero, List.set_cons_succ]
              refine wpAnyH_take (i := 18) (v := ?_) rfl (by kernel_rfl) (by kernel_rfl) (by kernel_rfl) (fun _ _ _ h => h) (Or.inl ⟨by kernel_rfl, ?_⟩) hHeld ?_
              rotate_left
              · intro w hSw
                first | (go_simp; done) | (go_simp; with_reducible rfl)
              try simp only [Act.put, List.getElem_toArray, List.getElem_cons_zero, List.getElem_cons_succ, List.setIfInBounds_toArray, List.set_cons_zero, List.set_cons_succ]
              refine wpAnyH_take (i := 19) (v := ?_) rfl (by kernel_rfl) (by kernel_rfl) (by kernel_rfl) (fun _ _ _ h => h) (Or.inl ⟨by kernel_rfl, ?_⟩) hHeld ?_
              rotate_left
              · intro w hSw
                first | (go_simp; done) | (go_simp; with_reducible rfl)
              try simp only [Act.put, List.getElem_toArray, List.getElem_cons_zero, List.getElem_cons_succ, List.setIfInBounds_toArray, List.set_cons_zero, List.set_cons_succ]
              refine wpAnyH_take (i := 20) (v := ?_) rfl (by kernel_rfl) (by kernel_rfl) (by kernel_rfl) (fun _ _ _ h => h) (Or.inl ⟨by kernel_rfl, ?_⟩) hHeld ?_
              rotate_left
              · intro w hSw
                first | (go_simp; done) | (go_simp; with_reducible rfl)
              try simp only [Act.put, List.getElem_toArray, List.getElem_cons_zero, List.getElem_cons_succ, List.setIfInBounds_toArray, List.set_cons_zero, List.set_cons_succ]
              refine wpAnyH_take (i := 21) (v := ?_) rfl (by kernel_rfl) (by kernel_rfl) (by kernel_rfl) (fun _ _ _ h => h) (Or.inl ⟨by kernel_rfl, ?_⟩) hHeld ?_
              rotate_left
              · intro w hSw
                first | (go_simp; done) | (go_simp; with_reducible rfl)
              try simp only [Act.put, List.getElem_toArray, List.getElem_cons_zero, List.getElem_cons_succ, List.setIfInBounds_toArray, List.set_cons_zero, List.set_cons_succ]
              refine wpAnyH_take (i := 22) (v := ?_) rfl (by kernel_rfl) (by kernel_rfl) (by kernel_rfl) (fun _ _ _ h => h) (Or.inl ⟨by kernel_rfl, ?_⟩) hHeld ?_
              rotate_left
              · intro w hSw
                first | (go_simp; done) | (go_simp; with_reducible rfl)
              try simp only [Act.put, List.getElem_toArray, List.getElem_cons_zero, List.getElem_cons_succ, List.setIfInBounds_toArray, List.set_cons_zero, List.set_cons_succ]
              refine wpAnyH_done (by kernel_rfl) ?_ _
              refine NoPanic.normal ?_
              clear q0 q1 q2 q3 q4 q5 q6 q7 z4 z5 z6 SXM XML XMB SML SMW
              have H9' : Hid (Hp W w9 (rowA 21 .i32 gl 128 (fwdv 128 4 134217728 (shapev ((X.drop 384).take 256))) :: rowA 21 .i32 go 512 (pf f (fun j => decide (j % 4 < 3) || decide (j % 4 = 3 ∧ j / 4 < 0)) 512) :: anaA a c lo br (.slice A2 D.length c2) :: slA 21 .i32 (.slice A2 D.length c2) D :: slA 21 .i32 (.slice (some ⟨g8, 0, none⟩) 640 c8) X :: lapA lo c 512 1 28 :: lapA br c 128 4 27 :: circA c :: l)) := Lib.hid (by
                have := H9.out
                rw [pf_eq f (fun j => decide (j % 4 < 3)) (fun j => decide (j % 4 < 3) || decide (j % 4 = 3 ∧ j / 4 < 0)) 512 (fun j _ => by simp)] at this
                exact this)
              clear H9 H
              go_wp2_with fail
              go_loopw [102] (fun i wr => ∃ k : Nat, k ≤ 128 ∧ i = .int .i64 (k : Int) ∧ Hid (Hp W wr (rowA 21 .i32 gl 128 (fwdv 128 4 134217728 (shapev ((X.drop 384).take 256))) :: rowA 21 .i32 go 512 (pf f (fun j => decide (j % 4 < 3) || decide (j % 4 = 3 ∧ j / 4 < k)) 512) :: anaA a c lo br (.slice A2 D.length c2) :: slA 21 .i32 (.slice A2 D.length c2) D :: slA 21 .i32 (.slice (some ⟨g8, 0, none⟩) 640 c8) X :: lapA lo c 512 1 28 :: lapA br c 128 4 27 :: circA c :: l))) (fun i _ => 128 - (intOf i).toNat)
              case atStart => exact ⟨0, by omega, rfl, H9'⟩
              case round =>
                clear H9'
                obtain ⟨k, hk, rfl, H⟩ := hrel
                by_cases klt : k < 128
                · have kk : (k : Int) < 128 := by omega
                  have hc := H.out.row.cell (i := k) (by rw [fwdv_len]; exact klt)
                  have e1 : (fwdv 128 4 134217728 (shapev ((X.drop 384).take 256)))[k]'(by rw [fwdv_len]; exact klt) = (fwdv 128 4 134217728 (shapev ((X.drop 384).take 256))).getD k 0 := by rw [List.getD_eq_getElem?_getD, List.getElem?_eq_getElem (by rw [fwdv_len]; exact klt)]; rfl
                  rw [e1] at hc
                  obtain ⟨i1, hi1⟩ : ∃ i1 : Nat, i1 = 4 * k + 3 := ⟨_, rfl⟩
                  have fi : f i1 = (fwdv 128 4 134217728 (shapev ((X.drop 384).take 256))).getD k 0 := by
                    rw [HF.out]
                    show (fwdv 128 4 134217728 (shapev ((X.drop (128 * (i1 % 4))).take 256))).getD (i1 / 4) 0 = _
                    rw [show i1 % 4 = 3 by omega, show i1 / 4 = k by omega]
                  obtain ⟨y, hy⟩ : ∃ y, (fwdv 128 4 134217728 (shapev ((X.drop 384).take 256))).getD k 0 = y := ⟨_, rfl⟩
                  rw [hy] at hc fi
                  have hs := H.out.up1.set i1 (f i1)
                  rw [pf_set f _ (fun j => decide (j % 4 < 3) || decide (j % 4 = 3 ∧ j / 4 < k + 1)) _ _ (fun j hj => by rw [Bool.eq_iff_iff]; simp; omega), fi] at hs
                  have HS := Lib.hid hs.up1
                  have fr := H.out.up1.row.free i1
                  have fc := H.out.up1.row.cell (i := i1) (by rw [pf_len]; omega)
                  rw [pf_get] at fc
                  obtain ⟨vv, hvv⟩ : ∃ vv, (if (decide (i1 % 4 < 3) || decide (i1 % 4 = 3 ∧ i1 / 4 < k)) = true then f i1 else 0) = vv := ⟨_, rfl⟩
                  rw [hvv] at fc
                  have e2 : (4 * (k : Int) + 3).toNat = i1 := by omega
                  have e3 : (4 * (k : Int)).toNat = i1 - 3 := by omega
                  have l1 : i1 < 512 := by omega
                  clear hs hy fi e1 hvv hi1
                  go_wp2_with fail
                  go_roundw
                  case rel => exact ⟨k + 1, by omega, by go_num, HS⟩
                  case measure => simp [intOf]; omega
                · obtain rfl : k = 128 := by omega
                  have h7 := H.out.drop
                  rw [pf_eq f _ (fun j => decide (j % 4 < 3 + 1)) 512 (fun j hj => by rw [Bool.eq_iff_iff]; simp; omega)] at h7
                  have H7 := Lib.hid h7
                  clear h7 H
                  go_wp2_with fail
                  go_roundw
                  case rel => exact ⟨3 + 1, by omega, by first | rfl | go_num, H7⟩
                  case measure => simp [intOf]
          · obtain rfl : m = 4 := by omega
            have h5 := H.out.up3.drop
            rw [pf_all _ _ _ (fun j _ => by simp; omega), HF.out] at h5
            have hD2 : D = (past ++ fine16 pcm).drop 512 := by rw [HFF.out, HX.out, HDD.out]
            have eO : ovl true (past ++ fine16 pcm) = (List.range 512).map (fun i => (fwdv 128 4 134217728 (shapev ((X.drop (128 * (i % 4))).take 256))).getD (i / 4) 0) := by
              rw [HFF.out, HX.out]
              unfold ovl brfL
              rfl
            rw [← eO, hD2] at h5
            have H5 := Lib.hid h5
            clear h5 hD2 eO
            go_wp2_with fail
            go_ret2
            exact ⟨_, _, rfl, H5.out⟩
      · have hz : (w2.setCell ⟨a, 3, none⟩ (.slice A2 D.length c2)).heap.size = w2.heap.size := by simp
        have hp2 : Hp W (w2.setCell ⟨a, 3, none⟩ (.slice A2 D.length c2)) (anaA a c lo br (.slice A2 D.length c2) :: slA 21 .i32 (.slice A2 D.length c2) D :: slA 21 .i32 (.slice (some ⟨g8, 0, none⟩) 640 c8) X :: slA 21 .i32 (.slice Av past.length cv) past :: lapA lo c 512 1 28 :: lapA br c 128 4 27 :: circA c :: l) := H2.out
        have sx : Src (w2.setCell ⟨a, 3, none⟩ (.slice A2 D.length c2)) .i32 (.slice (some ⟨g8, 0, none⟩) 640 c8) X := by
          have := Src.of_sl hp2.up2.sl
          exact this
        clear H2 B2 fr2 fc2
        generalize w2.setCell ⟨a, 3, none⟩ (.slice A2 D.length c2) = w3 at hz hp2 sx ⊢
        rw [← hz]
        have t0 := hp2.blk.cell (i := 0) rfl
        have t1 := hp2.blk.cell (i := 1) rfl
        have t2 := hp2.blk.cell (i := 2) rfl
        have al3 : a < w3.heap.size := hp2.blk.lt
        have CI := Lib.hid (Hp.blk (hp2.up6 : Hp W w3 (circA c :: _)))
        have HP2 := Lib.hid hp2
        have SX := Lib.hid sx
        have HZ := Lib.hid hz
        have SL : Hid ((shapev X).length = 640) := Lib.hid (by unfold shapev; rw [List.length_map, List.length_range]; exact XL.out)
        have XB : Hid (∀ j, -524288 ≤ X.getD j 0 ∧ X.getD j 0 ≤ 524288) := Lib.hid (by
          rw [← HX.out, ← HFF.out]
          exact app_bd PB.out (fine_bd UB.out))
        have HB4 : Hid (Below w3.heap.size w3 (w3.alloc (.cells (madeCells #[.int .i32 0] 1024) 21))) := Lib.hid ((Below.refl _ _).alloc (Nat.le_refl _) _)
        have KX : Hid (Blk ((w3.alloc (.cells (madeCells #[.int .i32 0] 1024) 21)).drew) w3.heap.size 21 (vals .i32 (List.replicate 1024 0))) := Lib.hid (by
          have := Blk.new w3 21 (madeCells #[.int .i32 0] 1024)
          rw [made_vals] at this ⊢
          exact this)
        have CP : Hid (∀ (w8 : World) (gs : Nat), RowI w8 21 .i32 gs 640 (shapev X) → ∀ j v, ((shapev X).map (Value.int .i32))[j]? = some v → w8.cell? ((⟨gs, 0, none⟩ : Addr).add j) = some v) := Lib.hid (fun w8 gs h j v hj => by
          rw [List.getElem?_map] at hj
          have hjl : j < (shapev X).length := by
            rcases Nat.lt_or_ge j (shapev X).length with h1 | h1
            · exact h1
            · rw [List.getElem?_eq_none h1] at hj; cases hj
          rw [List.getElem?_eq_getElem hjl] at hj
          injection hj with hj
          subst hj
          have := h.cell hjl
          unfold Addr.add
          split
          · rename_i h0; subst h0; exact this
          · simpa using this)
        clear hz hp2 sx fr fc
        refine wp_region_noPanic ?_
        refine wp_region_any (by kernel_rfl) ?_
        try (change wpAny _ _ _ _ _ _ _ (World.drew _))
        refine wpAny_of_held (S := fun w5 => Below w3.heap.size w3 w5) _ _ _ _ ?_
        have hHeld := HB4.out.drew
        refine wpAnyH_take (i := 0) (v := ?_) rfl (by kernel_rfl) (by kernel_rfl) (by kernel_rfl) (fun _ _ _ h => h) (Or.inl ⟨by kernel_rfl, ?_⟩) hHeld ?_
        rotate_left
        · intro w hSw
          first | (go_simp; done) | (go_simp; with_reducible rfl)
        try simp only [Act.put, List.getElem_toArray, List.getElem_cons_zero, List.getElem_cons_succ, List.setIfInBounds_toArray, List.set_cons_zero, List.set_cons_succ]
        refine wpAnyH_take (i := 1) (v := ?_) rfl (by kernel_rfl) (by kernel_rfl) (by kernel_rfl) (fun _ _ _ h => h) (Or.inl ⟨by kernel_rfl, ?_⟩) hHeld ?_
        rotate_left
        · intro w hSw
          first | (go_simp; done) | (go_simp; with_reducible rfl)
        try simp only [Act.put, List.getElem_toArray, List.getElem_cons_zero, List.getElem_cons_succ, List.setIfInBounds_toArray, List.set_cons_zero, List.set_cons_succ]
        refine wpAnyH_take (i := 2) (v := ?_) rfl (by kernel_rfl) (by kernel_rfl) (by kernel_rfl) (fun _ _ _ h => h) (Or.inl ⟨by kernel_rfl, ?_⟩) hHeld ?_
        rotate_left
        · intro w hSw
          first | (go_simp; done) | (go_simp; with_reducible rfl)
        try simp only [Act.put, List.getElem_toArray, List.getElem_cons_zero, List.getElem_cons_succ, List.setIfInBounds_toArray, List.set_cons_zero, List.set_cons_succ]
        refine wpAnyH_take (i := 3) (v := ?_) rfl (by kernel_rfl) (by kernel_rfl) (by kernel_rfl) (fun _ _ _ h => h) (Or.inl ⟨by kernel_rfl, ?_⟩) hHeld ?_
        rotate_left
        · intro w hSw
          first | (go_simp; done) | (go_simp; with_reducible rfl)
        try simp only [Act.put, List.getElem_toArray, List.getElem_cons_zero, List.getElem_cons_succ, List.setIfInBounds_toArray, List.set_cons_zero, List.set_cons_succ]
        refine wpAnyH_take (i := 4) (v := ?_) rfl (by kernel_rfl) (by kernel_rfl) (by kernel_rfl) (fun _ _ _ h => h) (Or.inl ⟨by kernel_rfl, ?_⟩) hHeld ?_
        rotate_left
        · intro w hSw
          first | (go_simp; done) | (go_simp; with_reducible rfl)
        try simp only [Act.put, List.getElem_toArray, List.getElem_cons_zero, List.getElem_cons_succ, List.setIfInBounds_toArray, List.set_cons_zero, List.set_cons_succ]
        refine wpAnyH_take (i := 5) (v := ?_) rfl (by kernel_rfl) (by kernel_rfl) (by kernel_rfl) (fun _ _ _ h => h) (Or.inl ⟨by kernel_rfl, ?_⟩) hHeld ?_
        rotate_left
        · intro w hSw
          have d0 := Below.cell hSw (p := ⟨a, 0, none⟩) al3
          have d1 := Below.cell hSw (p := ⟨a, 1, none⟩) al3
          have d2 := Below.cell hSw (p := ⟨a, 2, none⟩) al3
          rw [t0] at d0
          rw [t1] at d1
          rw [t2] at d2
          first | (go_simp; done) | (go_simp; with_reducible rfl)
        try simp only [Act.put, List.getElem_toArray, List.getElem_cons_zero, List.getElem_cons_succ, List.setIfInBounds_toArray, List.set_cons_zero, List.set_cons_succ]
        refine wpAnyH_take (i := 6) (v := ?_) rfl (by kernel_rfl) (by kernel_rfl) (by kernel_rfl) (fun _ _ _ h => h) (Or.inl ⟨by kernel_rfl, ?_⟩) hHeld ?_
        rotate_left
        · intro w hSw
          first | (go_simp; done) | (go_simp; with_reducible rfl)
        try simp only [Act.put, List.getElem_toArray, List.getElem_cons_zero, List.getElem_cons_succ, List.setIfInBounds_toArray, List.set_cons_zero, List.set_cons_succ]
        refine wpAnyH_ready (rs := [7]) (by kernel_rfl) (by simp) ?_
        refine AllReadyH.cons rfl (fun K hK => ?_) AllReadyH.nil
        go_simp
        go_at_call 51
        refine (shape_calls (Blk.below CI.out HB4.out.drew (Blk.lt CI.out)) _ _ (Src.below SX.out HB4.out.drew) XL.out (by decide) (by decide) (fun j => by have := XB.out j; omega)).mono ?_
        rintro e8 w8 ⟨gs, rfl, hgs, hrs, b8⟩
        have RS := Lib.hid hrs
        have B8 : Hid (Below w3.heap.size w3 w8) := Lib.hid (HB4.out.drew.trans (b8.mono (HB4.out.drew).size))
        have K8 : Hid (Blk w8 w3.heap.size 21 (vals .i32 (List.replicate 1024 0))) := Lib.hid (Blk.below KX.out b8 (Blk.lt KX.out))
        clear hrs b8 hgs
        go_simp
        refine hK.out _ _ (B8.out) (fun hHeld => ?_)
        clear hK K
        try simp only [Act.put, List.getElem_toArray, List.getElem_cons_zero, List.getElem_cons_succ, List.setIfInBounds_toArray, List.set_cons_zero, List.set_cons_succ]
        refine wpAnyH_ready (rs := [8]) (by kernel_rfl) (by simp) ?_
        refine AllReadyH.cons rfl (fun K hK => ?_) AllReadyH.nil
        refine step_copy_splice rfl (.tmp 55) (.tmp 61) 22 22 rfl 21 Try.underlying22 (by kernel_rfl) (some ⟨w3.heap.size, 192, none⟩) (some ⟨gs, 0, none⟩) 832 832 640 640 rfl rfl w3.heap.size 192 (vals .i32 (List.replicate 1024 0)).toList 21 (by rw [Array.toArray_toList]; exact K8.out) ((shapev X).map (Value.int .i32)) (by rw [List.length_map, SL.out]; rfl) (fun _ => ⟨rfl, _, rfl, CP.out _ _ RS.out⟩) (by rw [List.length_map, SL.out]; decide) (fun q hq => by obtain ⟨z, _, rfl⟩ := List.mem_map.1 hq; rfl) w3.heap.size w3 B8.out (Nat.le_refl _) ?_
        intro w9 HG hB9
        have B9 := Lib.hid hB9
        refine hK.out _ _ (B9.out) (fun hHeld => ?_)
        clear hK K
        try simp only [Act.put, List.getElem_toArray, List.getElem_cons_zero, List.getElem_cons_succ, List.setIfInBounds_toArray, List.set_cons_zero, List.set_cons_succ]
        refine wpAnyH_done (by kernel_rfl) ?_ _
        refine NoPanic.normal ?_
        have HP9 := Lib.hid (HP2.out.keep B9.out)
        have hrow : RowI w9 21 .i32 w3.heap.size 1024 (longX X) := by
          have e : (splice (vals .i32 (List.replicate 1024 0)).toList 192 ((shapev X).map (Value.int .i32))).toArray = vals .i32 (longX X) := by
            unfold longX splice vals
            simp
          have hb : Blk w9 w3.heap.size 21 (vals .i32 (longX X)) := by
            have := HG.out
            rw [e] at this
            exact this
          have ll := longX_len XL.out
          exact ⟨_, hb, by rw [ll]; exact Nat.le_refl _, by decide, by rw [vals_size, ll], fun i h => vals_get h⟩
        have HR := Lib.hid (HP2.out.add_row B9.out hrow (Nat.le_refl _))
        have u1 := HP9.out.blk.cell (i := 1) rfl
        have a9 := HP9.out.blk.lt
        clear HG hrow
        go_wp2_with fail
        refine (Forward512 (Hp_lap (HR.out.pk [5, 6])) (by have := Src.of_sl (Sl.row HR.out.row); rw [longX_len XL.out] at this; exact this) (longX_len XL.out) (longX_within XB.out)).mono ?_
        rintro e10 w10 ⟨g10, rfl, hg10, hr10, b10⟩
        have h11 := HR.out.add_row b10 hr10 hg10
        rw [← HX.out, ← HFF.out] at h11
        have hD2 : D = (past ++ fine16 pcm).drop 512 := by rw [HFF.out, HX.out, HDD.out]
        rw [hD2] at h11
        have H11 := Lib.hid h11.up1.drop.up3.drop.up3.drop
        clear h11 hD2
        go_wp2_with fail
        go_ret2
        exact ⟨_, _, rfl, H11.out⟩
end Go.Proofs.Ytngldpeapcbbpaa.Lap

/-
  Overlap: frames there and back are near the samples; plain. No condition but those told.
-/
set_option linter.unusedVariables false
set_option linter.unusedSimpArgs false
namespace Go.Proofs.Ytngldpeapcbbpaa.Lap
open Go.RowKit Go.Proofs.Ytngldpeapcbbpaa Go.Proofs.Ytngldpeapcbbpaa.Bnd Go.Proofs.Ytngldpeapcbbpaa.Art Go.Proofs.YtngldpeapcbbpaaW.PrintWords

/-- A long frame's sound. -/
def sndL (L : List Int) : List Int := shapev (((backv 512 1 268435456 L).drop 192).take 640)
/-- A part's lines, of a brief frame's. -/
def prt (m : Nat) (L : List Int) : List Int := (List.range 128).map fun k => L.getD (4 * k + m) 0
/-- A part's sound. -/
def prtS (m : Nat) (L : List Int) : List Int := shapev (backv 128 4 134217728 (prt m L))
/-- The sound of the first parts, at a place. -/
def acc (L : List Int) : Nat → Nat → Int
  | 0, _ => 0
  | m + 1, t => if 128 * m ≤ t ∧ t < 128 * m + 256 then acc L m t + (prtS m L).getD (t - 128 * m) 0 else acc L m t
def sndB (L : List Int) : List Int := (List.range 640).map (acc L 4)
def snd (brief : Bool) (L : List Int) : List Int := if brief then sndB L else sndL L
/-- What is heard of a sound at a place, some being left. -/
def sumAt (x left : List Int) (i : Nat) : Int := if i < 128 then x.getD i 0 + left.getD i 0 else x.getD i 0
def outv (x left : List Int) : List Int := (List.range 512).map fun i => clampv (-32768) 32767 (rdv 16 (sumAt x left i))
theorem fold_bd20' {n : Nat} {x : List Int} (h : ∀ j, -524288 ≤ x.getD j 0 ∧ x.getD j 0 ≤ 524288) (j : Nat) : -1048576 ≤ (foldv n x).getD j 0 ∧ (foldv n x).getD j 0 ≤ 1048576 := by
  by_cases hj : j < n
  · have e : (foldv n x).getD j 0 = foldAt n x j := by simp [foldv, List.getD, hj]
    rw [e]
    unfold foldAt
    split
    · have a := h (3 * (n / 2) - 1 - j)
      have b := h (3 * (n / 2) + j)
      omega
    · have a := h (j - n / 2)
      have b := h (n - 1 - (j - n / 2))
      omega
  · have e : (foldv n x).getD j 0 = 0 := by simp [foldv, List.getD, hj]
    rw [e]
    omega
theorem qt_low (i : Nat) (h : 1 ≤ i) : 0 ≤ qt i ∧ qt i ≤ 16777215 := by
  have hall : (QT.drop 1).all (fun x => decide (0 ≤ x ∧ x ≤ 16777215)) = true := by decide +kernel
  have e : qt i = (QT.drop 1).getD (i - 1) 0 := by
    unfold qt
    rw [List.getD_eq_getElem?_getD, List.getD_eq_getElem?_getD, List.getElem?_drop, show 1 + (i - 1) = i by omega]
  rw [e]
  by_cases hi : i - 1 < (QT.drop 1).length
  · have := List.all_eq_true.1 hall _ (List.getElem_mem hi)
    rw [List.getD_eq_getElem?_getD, List.getElem?_eq_getElem hi]
    simpa using this
  · rw [List.getD_eq_getElem?_getD, List.getElem?_eq_none (by omega)]
    decide
theorem cos_odd1 (u : Int) (h : u % 2 = 1) : -16777215 ≤ cosv u ∧ cosv u ≤ 16777215 := by
  unfold cosv
  obtain ⟨n, hn⟩ : ∃ n, (u % 4096).toNat = n := ⟨_, rfl⟩
  rw [hn]
  have n1 : n % 2 = 1 := by omega
  have n2 : n < 4096 := by omega
  unfold cv cb
  split
  · split
    · have := qt_low n (by omega); omega
    · have := qt_low (2048 - n) (by omega); omega
  · split
    · have := qt_low (4096 - n) (by omega); omega
    · have := qt_low (2048 - (4096 - n)) (by omega); omega
theorem wgt_odd (k j : Nat) : -16777215 ≤ wgt 1 k j ∧ wgt 1 k j ≤ 16777215 := by
  unfold wgt
  refine cos_odd1 _ ?_
  have e : ((2 * (j : Int) + 1) * (2 * k + 1) * ((1 : Nat) : Int)) = 2 * (2 * ((j : Int) * k) + j + k) + 1 := by grind
  rw [e]
  omega
theorem again512' {x : List Int} (hx : ∀ j, -524288 ≤ x.getD j 0 ∧ x.getD j 0 ≤ 524288) (i : Nat) (hi : i < 1024) : -1100 ≤ (backv 512 1 268435456 (fwdv 512 1 268435456 x)).getD i 0 - (unfv 512 (foldv 512 x)).getD i 0 ∧ (backv 512 1 268435456 (fwdv 512 1 268435456 x)).getD i 0 - (unfv 512 (foldv 512 x)).getD i 0 ≤ 1100 := by
  have ub := fold_bd20' (n := 512) hx
  unfold backv
  refine unf_near (by omega) (by decide) (fun k hk => ?_) i hi
  rw [turnv_at _ _ _ _ _ hk]
  refine twice512 (fun j => (foldv 512 x).getD j 0) (fun j => (fwdv 512 1 268435456 x).getD j 0) (fun k => rdv 268435456 (dot 1 (fun j => (fwdv 512 1 268435456 x).getD j 0) 512 k)) (fun j _ => by have := ub j; omega) (fun i hi => ?_) (fun k _ => rfl) k hk
  rw [fwdv_at hi]
  have b : -(512 * (1048576 * 16777215)) ≤ dot 1 (fun j => (foldv 512 x).getD j 0) 512 i ∧ dot 1 (fun j => (foldv 512 x).getD j 0) 512 i ≤ 512 * (1048576 * 16777215) :=
    sum_bd fun j _ => mul_bd (B := 1048576) (C := 16777215) (by decide) (by decide) (ub j) (wgt_odd i j)
  generalize dot 1 (fun j => (foldv 512 x).getD j 0) 512 i = S at b ⊢
  exact clamp_in (by unfold rdv; omega) (by unfold rdv; omega)
theorem again128' {x : List Int} (hx : ∀ j, -524288 ≤ x.getD j 0 ∧ x.getD j 0 ≤ 524288) (i : Nat) (hi : i < 256) : -1100 ≤ (backv 128 4 134217728 (fwdv 128 4 134217728 x)).getD i 0 - (unfv 128 (foldv 128 x)).getD i 0 ∧ (backv 128 4 134217728 (fwdv 128 4 134217728 x)).getD i 0 - (unfv 128 (foldv 128 x)).getD i 0 ≤ 1100 := by
  have ub := fold_bd20' (n := 128) hx
  unfold backv
  refine unf_near (by omega) (by decide) (fun k hk => ?_) i hi
  rw [turnv_at _ _ _ _ _ hk]
  refine twice128 (fun j => (foldv 128 x).getD j 0) (fun j => (fwdv 128 4 134217728 x).getD j 0) (fun k => rdv 134217728 (dot 4 (fun j => (fwdv 128 4 134217728 x).getD j 0) 128 k)) (fun j _ => by have := ub j; omega) (fun i hi => ?_) (fun k _ => rfl) k hk
  rw [fwdv_at hi]
  have b := dot_bd (un := 4) (n := 128) (k := i) (B := 1048576) (by decide) ub
  generalize dot 4 (fun j => (foldv 128 x).getD j 0) 128 i = S at b ⊢
  exact clamp_in (by unfold rdv; omega) (by unfold rdv; omega)
/-- What is folded and unfolded, told plainly. -/
theorem unf_fold {n : Nat} {h : Nat} (hn : n = 2 * h) (x : List Int) (i : Nat) (hi : i < 2 * n) : (unfv n (foldv n x)).getD i 0 = if i < n then x.getD i 0 - x.getD (n - 1 - i) 0 else x.getD i 0 + x.getD (3 * n - 1 - i) 0 := by
  have e1 : (unfv n (foldv n x)).getD i 0 = unfAt n (foldv n x) i := by simp [unfv, List.getD, hi]
  have e2 : ∀ j, j < n → (foldv n x).getD j 0 = foldAt n x j := fun j hj => by simp [foldv, List.getD, hj]
  have hh : n / 2 = h := by omega
  rw [e1]
  unfold unfAt
  rw [hh]
  split
  · rw [if_pos (by omega), e2 _ (by omega)]
    unfold foldAt
    rw [hh, if_neg (by omega), show h + i - h = i by omega]
  · split
    · rw [e2 _ (by omega)]
      unfold foldAt
      rw [hh, if_neg (by omega), show h + (n - 1 - i) - h = n - 1 - i by omega, show n - 1 - (n - 1 - i) = i by omega]
      omega
    · split
      · rw [e2 _ (by omega)]
        unfold foldAt
        rw [hh, if_pos (by omega), show 3 * h - 1 - (3 * h - 1 - i) = i by omega, show 3 * h + (3 * h - 1 - i) = 3 * n - 1 - i by omega]
        omega
      · rw [e2 _ (by omega)]
        unfold foldAt
        rw [hh, if_pos (by omega), show 3 * h - 1 - (i - 3 * h) = 3 * n - 1 - i by omega, show 3 * h + (i - 3 * h) = i by omega]
        omega
attribute [local irreducible] cosv wgt qt QT turnv
/-- The weights of both legs. -/
theorem rise_in (j : Nat) (h : j < 128) : risev (j : Int) = cosv (1024 - 4 * (2 * (j : Int) + 1)) := by unfold risev; rw [if_neg (by omega), if_neg (by omega)]
theorem rise_out (x : Int) (h : 128 ≤ x) : risev x = 16777216 := by unfold risev; rw [if_neg (by omega), if_pos h]
theorem legs (j : Nat) (h : j < 128) : -536870912 ≤ risev (j : Int) * risev (j : Int) + risev ((127 - j : Nat) : Int) * risev ((127 - j : Nat) : Int) - 281474976710656 ∧ risev (j : Int) * risev (j : Int) + risev ((127 - j : Nat) : Int) * risev ((127 - j : Nat) : Int) - 281474976710656 ≤ 536870912 := by
  rw [rise_in j h, rise_in (127 - j) (by omega)]
  obtain ⟨u, hu⟩ : ∃ u : Int, u = 4 * (2 * (j : Int) + 1) := ⟨_, rfl⟩
  rw [show 1024 - 4 * (2 * ((127 - j : Nat) : Int) + 1) = u by omega, ← hu]
  have p1 := pr_all (1024 - u) (1024 - u)
  have p2 := pr_all u u
  unfold Pr at p1 p2
  rw [show 1024 - u + (1024 - u) = -(2 * u) + 2048 by omega, cos_half, cos_neg, show 1024 - u - (1024 - u) = 0 by omega, cos_zero] at p1
  rw [show u + u = 2 * u by omega, show u - u = 0 by omega, cos_zero] at p2
  generalize cosv (1024 - u) * cosv (1024 - u) = P at *
  generalize cosv u * cosv u = Q at *
  generalize cosv (2 * u) = R at *
  omega
theorem tdac {A B w v z1 z2 : Int} (hA : -524288 ≤ A ∧ A ≤ 524288) (hw : -16777216 ≤ w ∧ w ≤ 16777216) (hv : -16777216 ≤ v ∧ v ≤ 16777216) (hl : -536870912 ≤ w * w + v * v - 281474976710656 ∧ w * w + v * v - 281474976710656 ≤ 536870912)
    (h1 : -1100 ≤ z1 - (rdv 16777216 (A * w) - rdv 16777216 (B * v)) ∧ z1 - (rdv 16777216 (A * w) - rdv 16777216 (B * v)) ≤ 1100) (h2 : -1100 ≤ z2 - (rdv 16777216 (A * v) + rdv 16777216 (B * w)) ∧ z2 - (rdv 16777216 (A * v) + rdv 16777216 (B * w)) ≤ 1100) :
    -2300 ≤ rdv 16777216 (z1 * w) + rdv 16777216 (z2 * v) - A ∧ rdv 16777216 (z1 * w) + rdv 16777216 (z2 * v) - A ≤ 2300 := by
  have rd : ∀ x, -8388608 ≤ 16777216 * rdv 16777216 x - x ∧ 16777216 * rdv 16777216 x - x ≤ 8388608 := fun x => by unfold rdv; omega
  have r1 := rd (A * w)
  have r2 := rd (B * v)
  have r3 := rd (A * v)
  have r4 := rd (B * w)
  have r5 := rd (z1 * w)
  have r6 := rd (z2 * v)
  clear rd
  generalize rdv 16777216 (A * w) = p1 at *
  generalize rdv 16777216 (B * v) = p2 at *
  generalize rdv 16777216 (A * v) = p3 at *
  generalize rdv 16777216 (B * w) = p4 at *
  generalize rdv 16777216 (z1 * w) = y1 at *
  generalize rdv 16777216 (z2 * v) = y2 at *
  have b1 := mul_bd (x := 16777216 * z1 - A * w + B * v) (y := w) (B := 18471714816) (C := 16777216) (by decide) (by decide) (by omega) hw
  have b2 := mul_bd (x := 16777216 * z2 - A * v - B * w) (y := v) (B := 18471714816) (C := 16777216) (by decide) (by decide) (by omega) hv
  have b3 := mul_bd (x := A) (y := w * w + v * v - 281474976710656) (B := 524288) (C := 536870912) (by decide) (by decide) hA hl
  have key : 16777216 * (z1 * w) + 16777216 * (z2 * v) = (16777216 * z1 - A * w + B * v) * w + (16777216 * z2 - A * v - B * w) * v + A * (w * w + v * v - 281474976710656) + 281474976710656 * A := by grind
  generalize (16777216 * z1 - A * w + B * v) * w = M1 at *
  generalize (16777216 * z2 - A * v - B * w) * v = M2 at *
  generalize A * (w * w + v * v - 281474976710656) = M3 at *
  generalize z1 * w = Q1 at *
  generalize z2 * v = Q2 at *
  omega
theorem slope_lo {n i : Nat} (hn : 256 ≤ n) (hi : i < 128) : slope n i = risev (i : Int) := by
  unfold slope
  have := rise_bd (i : Int)
  rw [rise_out ((n : Int) - 1 - i) (by omega), if_neg (by omega)]
theorem slope_hi {n i : Nat} (hn : 256 ≤ n) (hi : i < 128) : slope n (n - 128 + i) = risev ((127 - i : Nat) : Int) := by
  unfold slope
  have := rise_bd ((127 - i : Nat) : Int)
  rw [rise_out ((n - 128 + i : Nat) : Int) (by omega), show (n : Int) - 1 - ((n - 128 + i : Nat) : Int) = ((127 - i : Nat) : Int) by omega]
  split <;> omega
theorem slope_mid {n i : Nat} (h1 : 128 ≤ i) (h2 : i + 128 < n + 0) : slope n i = 16777216 := by
  unfold slope
  rw [rise_out (i : Int) (by omega), rise_out ((n : Int) - 1 - i) (by omega), if_neg (by decide)]
theorem shapev_at (x : List Int) (i : Nat) (h : i < x.length) : (shapev x).getD i 0 = rdv 16777216 (x.getD i 0 * slope x.length i) := by
  unfold shapev
  rw [List.getD_eq_getElem?_getD, List.getElem?_map, List.getElem?_range h]
  rfl
theorem shapev_len (x : List Int) : (shapev x).length = x.length := by simp [shapev]
theorem sub_at (x : List Int) (a b i : Nat) (h : i < b) : ((x.drop a).take b).getD i 0 = x.getD (a + i) 0 := by
  rw [List.getD_eq_getElem?_getD, List.getElem?_take, if_pos h, List.getElem?_drop, ← List.getD_eq_getElem?_getD]
theorem rdv_whole (x : Int) : rdv 16777216 (x * 16777216) = x := by unfold rdv; omega
theorem prt_brf {X : List Int} {m : Nat} (hm : m < 4) : prt m (brfL X) = fwdv 128 4 134217728 (shapev ((X.drop (128 * m)).take 256)) := by
  have e : ∀ k, k < 128 → (brfL X).getD (4 * k + m) 0 = (fwdv 128 4 134217728 (shapev ((X.drop (128 * m)).take 256))).getD k 0 := fun k hk => by
    unfold brfL
    rw [List.getD_eq_getElem?_getD, List.getElem?_map, List.getElem?_range (by omega)]
    simp only [Option.map_some, Option.getD_some]
    rw [show (4 * k + m) % 4 = m by omega, show (4 * k + m) / 4 = k by omega]
  apply List.ext_getElem
  · simp [prt, fwdv_len]
  · intro k h1 h2
    have h3 := h2
    rw [fwdv_len] at h3
    have e1 := e k h3
    simp only [prt, List.getElem_map, List.getElem_range]
    rw [e1, List.getD_eq_getElem?_getD, List.getElem?_eq_getElem h2]
    rfl
theorem shape_b {x : List Int} (h : ∀ j, -524288 ≤ x.getD j 0 ∧ x.getD j 0 ≤ 524288) (j : Nat) : -524288 ≤ (shapev x).getD j 0 ∧ (shapev x).getD j 0 ≤ 524288 := by
  by_cases hj : j < x.length
  · rw [shapev_at _ _ hj]
    have := shape_bd (B := 524288) (by decide) h j
    unfold shapeAt at this
    exact this
  · rw [List.getD_eq_getElem?_getD, List.getElem?_eq_none (by rw [shapev_len]; omega)]
    decide
section
variable {X : List Int} (xl : X.length = 640) (xb : ∀ j, -524288 ≤ X.getD j 0 ∧ X.getD j 0 ≤ 524288)
include xl xb
theorem prt_lo {m : Nat} (hm : m < 4) {i : Nat} (hi : i < 128) : ∃ z, (prtS m (brfL X)).getD i 0 = rdv 16777216 (z * risev (i : Int)) ∧ -1100 ≤ z - (rdv 16777216 (X.getD (128 * m + i) 0 * risev (i : Int)) - rdv 16777216 (X.getD (128 * m + (127 - i)) 0 * risev ((127 - i : Nat) : Int))) ∧ z - (rdv 16777216 (X.getD (128 * m + i) 0 * risev (i : Int)) - rdv 16777216 (X.getD (128 * m + (127 - i)) 0 * risev ((127 - i : Nat) : Int))) ≤ 1100 := by
  have ll : ((X.drop (128 * m)).take 256).length = 256 := by rw [List.length_take, List.length_drop]; omega
  have ag := again128' (shape_b (sub_bd (by decide) xb (128 * m) 256)) i (by omega)
  rw [unf_fold (h := 64) rfl _ i (by omega), if_pos hi, shapev_at _ _ (by omega), shapev_at _ _ (by omega), ll, slope_lo (by decide) hi, slope_lo (by decide) (show 128 - 1 - i < 128 by omega), sub_at _ _ _ _ (by omega), sub_at _ _ _ _ (by omega), show 128 - 1 - i = 127 - i by omega] at ag
  refine ⟨_, ?_, ag⟩
  unfold prtS
  rw [prt_brf hm, shapev_at _ _ (by rw [backv_len]; omega), backv_len, slope_lo (by decide) hi]
theorem prt_hi {m : Nat} (hm : m < 4) {i : Nat} (hi : i < 128) : ∃ z, (prtS m (brfL X)).getD (128 + i) 0 = rdv 16777216 (z * risev ((127 - i : Nat) : Int)) ∧ -1100 ≤ z - (rdv 16777216 (X.getD (128 * (m + 1) + i) 0 * risev ((127 - i : Nat) : Int)) + rdv 16777216 (X.getD (128 * (m + 1) + (127 - i)) 0 * risev (i : Int))) ∧ z - (rdv 16777216 (X.getD (128 * (m + 1) + i) 0 * risev ((127 - i : Nat) : Int)) + rdv 16777216 (X.getD (128 * (m + 1) + (127 - i)) 0 * risev (i : Int))) ≤ 1100 := by
  have ll : ((X.drop (128 * m)).take 256).length = 256 := by rw [List.length_take, List.length_drop]; omega
  have ag := again128' (shape_b (sub_bd (by decide) xb (128 * m) 256)) (128 + i) (by omega)
  have s1 := slope_hi (n := 256) (i := i) (by decide) hi
  have s2 := slope_hi (n := 256) (i := 127 - i) (by decide) (by omega)
  rw [show 256 - 128 + i = 128 + i by omega] at s1
  rw [show 256 - 128 + (127 - i) = 3 * 128 - 1 - (128 + i) by omega, show 127 - (127 - i) = i by omega] at s2
  rw [unf_fold (h := 64) rfl _ (128 + i) (by omega), if_neg (by omega), shapev_at _ _ (by omega), shapev_at _ _ (by omega), ll, s1, s2, sub_at _ _ _ _ (by omega), sub_at _ _ _ _ (by omega), show 128 * m + (128 + i) = 128 * (m + 1) + i by omega, show 128 * m + (3 * 128 - 1 - (128 + i)) = 128 * (m + 1) + (127 - i) by omega] at ag
  refine ⟨_, ?_, ag⟩
  unfold prtS
  rw [prt_brf hm, shapev_at _ _ (by rw [backv_len]; omega), backv_len, s1]
omit xl xb in
theorem sndB_at (L : List Int) (t : Nat) (h : t < 640) : (sndB L).getD t 0 = acc L 4 t := by
  unfold sndB
  rw [List.getD_eq_getElem?_getD, List.getElem?_map, List.getElem?_range h]
  rfl
omit xb in
theorem longX_at (i : Nat) (hi : i < 1024) : (longX X).getD i 0 = if 192 ≤ i ∧ i < 832 then rdv 16777216 (X.getD (i - 192) 0 * slope 640 (i - 192)) else 0 := by
  have sl : (shapev X).length = 640 := by rw [shapev_len, xl]
  unfold longX splice
  rw [sl]
  split
  · rename_i h
    rw [List.getD_eq_getElem?_getD, List.getElem?_append_right (by rw [List.length_take, List.length_replicate]; omega)]
    simp only [List.length_take, List.length_replicate]
    rw [List.getElem?_append_left (by rw [sl]; omega), ← List.getD_eq_getElem?_getD, show min 192 1024 = 192 from rfl, shapev_at _ _ (by omega), xl]
  · rename_i h
    by_cases h1 : i < 192
    · rw [List.getD_eq_getElem?_getD, List.getElem?_append_left (by rw [List.length_take, List.length_replicate]; omega), List.getElem?_take, if_pos (by omega), List.getElem?_replicate, if_pos (by omega)]
      rfl
    · rw [List.getD_eq_getElem?_getD, List.getElem?_append_right (by rw [List.length_take, List.length_replicate]; omega)]
      simp only [List.length_take, List.length_replicate]
      rw [List.getElem?_append_right (by rw [sl]; omega), List.getElem?_drop, List.getElem?_replicate]
      split <;> rfl
theorem longX_b (j : Nat) : -524288 ≤ (longX X).getD j 0 ∧ (longX X).getD j 0 ≤ 524288 := by
  by_cases hj : j < 1024
  · rw [longX_at xl j hj]
    split
    · rename_i h
      have := shape_bd (B := 524288) (by decide) xb (j - 192)
      unfold shapeAt at this
      rw [xl] at this
      exact this
    · decide
  · rw [List.getD_eq_getElem?_getD, List.getElem?_eq_none (by rw [longX_len xl]; omega)]
    decide
omit xl xb in
theorem sndL_at (k : Nat) (hk : k < 640) : (sndL (fwdv 512 1 268435456 (longX X))).getD k 0 = rdv 16777216 ((backv 512 1 268435456 (fwdv 512 1 268435456 (longX X))).getD (192 + k) 0 * slope 640 k) := by
  have ll : (((backv 512 1 268435456 (fwdv 512 1 268435456 (longX X))).drop 192).take 640).length = 640 := by rw [List.length_take, List.length_drop, backv_len]; omega
  unfold sndL
  rw [shapev_at _ _ (by omega), ll, sub_at _ _ _ _ hk]
theorem snd_lo (b : Bool) {i : Nat} (hi : i < 128) : ∃ z, (snd b (ovl b X)).getD i 0 = rdv 16777216 (z * risev (i : Int)) ∧ -1100 ≤ z - (rdv 16777216 (X.getD i 0 * risev (i : Int)) - rdv 16777216 (X.getD (127 - i) 0 * risev ((127 - i : Nat) : Int))) ∧ z - (rdv 16777216 (X.getD i 0 * risev (i : Int)) - rdv 16777216 (X.getD (127 - i) 0 * risev ((127 - i : Nat) : Int))) ≤ 1100 := by
  cases b with
  | true =>
    obtain ⟨z, h1, h2⟩ := prt_lo xl xb (m := 0) (by decide) hi
    rw [show 128 * 0 + i = i by omega, show 128 * 0 + (127 - i) = 127 - i by omega] at h2
    refine ⟨z, ?_, h2⟩
    rw [← h1]
    show (sndB (brfL X)).getD i 0 = _
    rw [sndB_at _ _ (by omega)]
    unfold acc acc acc acc acc
    rw [if_neg (by omega), if_neg (by omega), if_neg (by omega), if_pos (by omega), Int.zero_add, show i - 128 * 0 = i by omega]
  | false =>
    have ag := again512' (longX_b xl xb) (192 + i) (by omega)
    rw [unf_fold (h := 256) rfl _ (192 + i) (by omega), if_pos (by omega), longX_at xl _ (by omega), longX_at xl _ (by omega), if_pos (by omega), if_pos (by omega), show 192 + i - 192 = i by omega, show 512 - 1 - (192 + i) - 192 = 127 - i by omega, slope_lo (by decide) hi, slope_lo (by decide) (show 127 - i < 128 by omega)] at ag
    refine ⟨_, ?_, ag⟩
    show (sndL (fwdv 512 1 268435456 (longX X))).getD i 0 = _
    rw [sndL_at _ (by omega), slope_lo (by decide) hi]
theorem snd_hi (b : Bool) {i : Nat} (hi : i < 128) : ∃ z, (snd b (ovl b X)).getD (512 + i) 0 = rdv 16777216 (z * risev ((127 - i : Nat) : Int)) ∧ -1100 ≤ z - (rdv 16777216 (X.getD (512 + i) 0 * risev ((127 - i : Nat) : Int)) + rdv 16777216 (X.getD (512 + (127 - i)) 0 * risev (i : Int))) ∧ z - (rdv 16777216 (X.getD (512 + i) 0 * risev ((127 - i : Nat) : Int)) + rdv 16777216 (X.getD (512 + (127 - i)) 0 * risev (i : Int))) ≤ 1100 := by
  cases b with
  | true =>
    obtain ⟨z, h1, h2⟩ := prt_hi xl xb (m := 3) (by decide) hi
    rw [show 128 * (3 + 1) + i = 512 + i by omega, show 128 * (3 + 1) + (127 - i) = 512 + (127 - i) by omega] at h2
    refine ⟨z, ?_, h2⟩
    rw [← h1]
    show (sndB (brfL X)).getD (512 + i) 0 = _
    rw [sndB_at _ _ (by omega)]
    unfold acc acc acc acc acc
    rw [if_pos (by omega), if_neg (by omega), if_neg (by omega), if_neg (by omega), Int.zero_add, show 512 + i - 128 * 3 = 128 + i by omega]
  | false =>
    have ag := again512' (longX_b xl xb) (192 + (512 + i)) (by omega)
    have s1 := slope_hi (n := 640) (i := i) (by decide) hi
    have s2 := slope_hi (n := 640) (i := 127 - i) (by decide) (by omega)
    rw [show 640 - 128 + i = 512 + i by omega] at s1
    rw [show 640 - 128 + (127 - i) = 512 + (127 - i) by omega, show 127 - (127 - i) = i by omega] at s2
    rw [unf_fold (h := 256) rfl _ (192 + (512 + i)) (by omega), if_neg (by omega), longX_at xl _ (by omega), longX_at xl _ (by omega), if_pos (by omega), if_pos (by omega), show 192 + (512 + i) - 192 = 512 + i by omega, show 3 * 512 - 1 - (192 + (512 + i)) - 192 = 512 + (127 - i) by omega, s1, s2] at ag
    refine ⟨_, ?_, ag⟩
    show (sndL (fwdv 512 1 268435456 (longX X))).getD (512 + i) 0 = _
    rw [sndL_at _ (by omega), s1]
theorem snd_mid (b : Bool) {k : Nat} (h1 : 128 ≤ k) (h2 : k < 512) : -2300 ≤ (snd b (ovl b X)).getD k 0 - X.getD k 0 ∧ (snd b (ovl b X)).getD k 0 - X.getD k 0 ≤ 2300 := by
  cases b with
  | true =>
    obtain ⟨q, i, hi, rfl⟩ : ∃ q i, i < 128 ∧ k = 128 * (q + 1) + i := ⟨k / 128 - 1, k % 128, by omega, by omega⟩
    have hq : q < 3 := by omega
    obtain ⟨z1, e1, f1⟩ := prt_lo xl xb (m := q + 1) (by omega) hi
    obtain ⟨z2, e2, f2⟩ := prt_hi xl xb (m := q) (by omega) hi
    have t := tdac (xb (128 * (q + 1) + i)) (rise_bd _) (rise_bd _) (legs i hi) f1 f2
    rw [← e1, ← e2] at t
    have ea : (sndB (brfL X)).getD (128 * (q + 1) + i) 0 = (prtS q (brfL X)).getD (128 + i) 0 + (prtS (q + 1) (brfL X)).getD i 0 := by
      rw [sndB_at _ _ (by omega)]
      rcases (show q = 0 ∨ q = 1 ∨ q = 2 by omega) with rfl | rfl | rfl
      · unfold acc acc acc acc acc
        rw [if_neg (by omega), if_neg (by omega), if_pos (by omega), if_pos (by omega), Int.zero_add, show 128 * (0 + 1) + i - 128 * 0 = 128 + i by omega, show 128 * (0 + 1) + i - 128 * 1 = i by omega]
      · unfold acc acc acc acc acc
        rw [if_neg (by omega), if_pos (by omega), if_pos (by omega), if_neg (by omega), Int.zero_add, show 128 * (1 + 1) + i - 128 * 1 = 128 + i by omega, show 128 * (1 + 1) + i - 128 * 2 = i by omega]
      · unfold acc acc acc acc acc
        rw [if_pos (by omega), if_pos (by omega), if_neg (by omega), if_neg (by omega), Int.zero_add, show 128 * (2 + 1) + i - 128 * 2 = 128 + i by omega, show 128 * (2 + 1) + i - 128 * 3 = i by omega]
    show -2300 ≤ (sndB (brfL X)).getD _ 0 - _ ∧ (sndB (brfL X)).getD _ 0 - _ ≤ 2300
    rw [ea]
    omega
  | false =>
    have ag := again512' (longX_b xl xb) (192 + k) (by omega)
    show -2300 ≤ (sndL (fwdv 512 1 268435456 (longX X))).getD k 0 - _ ∧ (sndL (fwdv 512 1 268435456 (longX X))).getD k 0 - _ ≤ 2300
    rw [sndL_at _ (by omega), slope_mid h1 (by omega), rdv_whole]
    rw [unf_fold (h := 256) rfl _ (192 + k) (by omega)] at ag
    have e0 : (longX X).getD (192 + k) 0 = X.getD k 0 := by rw [longX_at xl _ (by omega), if_pos (by omega), show 192 + k - 192 = k by omega, slope_mid h1 (by omega), rdv_whole]
    rw [e0] at ag
    by_cases hq : 192 + k < 512
    · have e1 : (longX X).getD (512 - 1 - (192 + k)) 0 = 0 := by rw [longX_at xl _ (by omega), if_neg (by omega)]
      rw [if_pos hq, e1] at ag
      omega
    · have e1 : (longX X).getD (3 * 512 - 1 - (192 + k)) 0 = 0 := by rw [longX_at xl _ (by omega), if_neg (by omega)]
      rw [if_neg hq, e1] at ag
      omega
end
/-- What is heard of two frames, one behind the other. -/
theorem heard_near {X X' : List Int} (xl : X.length = 640) (xb : ∀ j, -524288 ≤ X.getD j 0 ∧ X.getD j 0 ≤ 524288) (yl : X'.length = 640) (yb : ∀ j, -524288 ≤ X'.getD j 0 ∧ X'.getD j 0 ≤ 524288) (hj : ∀ j, j < 128 → X'.getD (512 + j) 0 = X.getD j 0) (b b' : Bool) (left : List Int) (hleft : ∀ j, j < 128 → left.getD j 0 = (snd b' (ovl b' X')).getD (512 + j) 0) {k : Nat} (hk : k < 512) :
    -2300 ≤ sumAt (snd b (ovl b X)) left k - X.getD k 0 ∧ sumAt (snd b (ovl b X)) left k - X.getD k 0 ≤ 2300 := by
  unfold sumAt
  split
  · rename_i h
    obtain ⟨z1, e1, f1⟩ := snd_lo xl xb b h
    obtain ⟨z2, e2, f2⟩ := snd_hi yl yb b' h
    rw [hj k h, hj (127 - k) (by omega)] at f2
    rw [hleft k h, e1, e2]
    exact tdac (xb k) (rise_bd _) (rise_bd _) (legs k h) f1 f2
  · exact snd_mid xl xb b (by omega) hk
end Go.Proofs.Ytngldpeapcbbpaa.Lap

/-
  Overlap: a synth's sound; the program's walk. No condition but those told.
-/
set_option linter.unusedVariables false
set_option linter.unusedSimpArgs false
namespace Go.Proofs.Ytngldpeapcbbpaa.Lap
open Go.RowKit Go.Proofs.Ytngldpeapcbbpaa Go.Proofs.Ytngldpeapcbbpaa.Bnd Go.Proofs.Ytngldpeapcbbpaa.Art Go.Proofs.YtngldpeapcbbpaaW.PrintWords

theorem unf_b {n : Nat} {T : List Int} {B : Int} (hB : 0 ≤ B) (h : ∀ j, -B ≤ T.getD j 0 ∧ T.getD j 0 ≤ B) (i : Nat) : -B ≤ (unfv n T).getD i 0 ∧ (unfv n T).getD i 0 ≤ B := by
  by_cases hi : i < 2 * n
  · have e : (unfv n T).getD i 0 = unfAt n T i := by simp [unfv, List.getD, hi]
    rw [e]
    unfold unfAt
    split
    · exact h _
    · split
      · have := h (n / 2 + (n - 1 - i)); omega
      · split
        · have := h (3 * (n / 2) - 1 - i); omega
        · have := h (i - 3 * (n / 2)); omega
  · rw [List.getD_eq_getElem?_getD, List.getElem?_eq_none (by simp [unfv]; omega)]
    simp
    omega
theorem back_b512 {x : List Int} (h : ∀ j, -33554432 ≤ x.getD j 0 ∧ x.getD j 0 < 33554432) (i : Nat) : -1073741824 ≤ (backv 512 1 268435456 x).getD i 0 ∧ (backv 512 1 268435456 x).getD i 0 ≤ 1073741824 :=
  unf_b (by decide) (turn_bd512 (fun j => by have := h j; omega)) i
theorem back_b128 {x : List Int} (h : ∀ j, -33554432 ≤ x.getD j 0 ∧ x.getD j 0 < 33554432) (i : Nat) : -1073741824 ≤ (backv 128 4 134217728 x).getD i 0 ∧ (backv 128 4 134217728 x).getD i 0 ≤ 1073741824 :=
  unf_b (by decide) (turn_bd128 (fun j => by have := h j; omega)) i
theorem shape_b' {x : List Int} {B : Int} (hB : 0 ≤ B) (h : ∀ j, -B ≤ x.getD j 0 ∧ x.getD j 0 ≤ B) (j : Nat) : -B ≤ (shapev x).getD j 0 ∧ (shapev x).getD j 0 ≤ B := by
  by_cases hj : j < x.length
  · rw [shapev_at _ _ hj]
    have := shape_bd (B := B) hB h j
    unfold shapeAt at this
    exact this
  · rw [List.getD_eq_getElem?_getD, List.getElem?_eq_none (by rw [shapev_len]; omega)]
    simp
    omega
theorem prt_b {L : List Int} (h : ∀ j, -33554432 ≤ L.getD j 0 ∧ L.getD j 0 < 33554432) (m j : Nat) : -33554432 ≤ (prt m L).getD j 0 ∧ (prt m L).getD j 0 < 33554432 := by
  unfold prt
  rw [List.getD_eq_getElem?_getD, List.getElem?_map]
  by_cases hj : j < 128
  · rw [List.getElem?_range hj]
    exact h _
  · rw [List.getElem?_eq_none (by simp; omega)]
    simp
theorem prtS_b {L : List Int} (h : ∀ j, -33554432 ≤ L.getD j 0 ∧ L.getD j 0 < 33554432) (m j : Nat) : -1073741824 ≤ (prtS m L).getD j 0 ∧ (prtS m L).getD j 0 ≤ 1073741824 :=
  shape_b' (by decide) (back_b128 (prt_b h m)) j
theorem prtS_len (m : Nat) (L : List Int) : (prtS m L).length = 256 := by unfold prtS; rw [shapev_len, backv_len]
theorem acc_b {L : List Int} (h : ∀ j, -33554432 ≤ L.getD j 0 ∧ L.getD j 0 < 33554432) : ∀ (m t : Nat), -(m * 1073741824) ≤ acc L m t ∧ acc L m t ≤ m * 1073741824
  | 0, t => by simp [acc]
  | m + 1, t => by
    have h1 := acc_b h m t
    unfold acc
    split
    · have h2 := prtS_b h m (t - 128 * m); omega
    · omega
/-- What the first parts sound like. -/
def accv (L : List Int) (m : Nat) : List Int := (List.range 640).map (acc L m)
theorem accv_zero (L : List Int) : accv L 0 = List.replicate 640 0 := by
  apply List.ext_getElem
  · rw [accv, List.length_map, List.length_range, List.length_replicate]
  · intro j h1 h2
    rw [List.getElem_replicate]
    simp only [accv, List.getElem_map]
    rfl
theorem snd_accv (L : List Int) : snd true L = accv L 4 := rfl
theorem acc_on {L : List Int} {m i : Nat} (hi : i < 256) : acc L (m + 1) (128 * m + i) = acc L m (128 * m + i) + (prtS m L).getD i 0 := by
  rw [acc, if_pos (by omega), show 128 * m + i - 128 * m = i by omega]
theorem acc_off {L : List Int} {m t : Nat} (h : t < 128 * m ∨ 128 * m + 256 ≤ t) : acc L (m + 1) t = acc L m t := by
  rw [acc, if_neg (by omega)]
theorem mix_first (L : List Int) (m : Nat) : mixTo (acc L (m + 1)) (acc L m) 640 (128 * m) = accv L m := by
  apply List.ext_getElem
  · simp [mixTo, accv]
  · intro j h1 h2
    rw [mix_at]
    simp only [accv, List.getElem_map, List.getElem_range]
    split
    · exact acc_off (.inl ‹_›)
    · rfl
theorem mix_last (L : List Int) (m : Nat) : mixTo (acc L (m + 1)) (acc L m) 640 (128 * m + 256) = accv L (m + 1) := by
  apply List.ext_getElem
  · simp [mixTo, accv]
  · intro j h1 h2
    rw [mix_at]
    simp only [accv, List.getElem_map, List.getElem_range]
    split
    · rfl
    · exact (acc_off (.inr (by omega))).symm
theorem prt_within {L : List Int} (h : ∀ j, -33554432 ≤ L.getD j 0 ∧ L.getD j 0 < 33554432) (m : Nat) : within 33554432 (prt m L) = true := by
  unfold within
  rw [List.all_eq_true]
  intro y hy
  obtain ⟨k, _, rfl⟩ := List.mem_map.1 hy
  have := h (4 * k + m)
  simp only [Bool.and_eq_true, decide_eq_true_eq]
  omega
theorem prt_fill (m : Nat) (L : List Int) : prt m L = fillTo (fun k => L.getD (4 * k + m) 0) 128 128 := by rw [fillTo_all]; rfl
theorem fill_id (S : List Int) (n : Nat) (h : S.length = n) : fillTo (fun k => S.getD k 0) n n = S := by
  rw [fillTo_all]
  apply List.ext_getElem
  · simp [h]
  · intro j h1 h2
    simp [List.getElem?_eq_getElem h2]
theorem Hp.blkrow {W w : World} {l : List Ast} {t : TypeId} {k : IntKind} {g cap : Nat} {xs ys : List Int} (h : Hp W w (rowA t k g cap xs :: l)) (e : xs = ys) : Hp W w (rowA t k g cap ys :: l) := e ▸ h
attribute [local irreducible] cosv wgt qt QT risev turnv backv shapev accv prt
set_option maxHeartbeats 2000000 in
set_option maxRecDepth 100000 in
theorem sound_long {W w : World} {l : List Ast} {s c lo br : Nat} {v : Value} {tail : List Int} (H : Hp W w (synA s c lo br v :: slA 2 .i64 v tail :: lapA lo c 512 1 28 :: lapA br c 128 4 27 :: circA c :: l)) {A : Option Addr} {cap : Nat} {L : List Int} (rd : Rd W l .i32 (.slice A 512 cap) L) (ul : L.length = 512) (ub : ∀ j, -33554432 ≤ L.getD j 0 ∧ L.getD j 0 < 33554432) (wl : within 33554432 L = true) :
    Calls Try.prog 53 #[.pointer (some ⟨s, 0, none⟩), .slice A 512 cap, .bool false] w fun e w' => ∃ g, e = .returned (.tuple #[.slice (some ⟨g, 0, none⟩) 640 640, .int .i64 0]) ∧ Hp W w' (rowA 2 .i64 g 640 (snd false L) :: synA s c lo br v :: slA 2 .i64 v tail :: lapA lo c 512 1 28 :: lapA br c 128 4 27 :: circA c :: l) := by
  rw [show snd false L = sndL L from rfl]
  have RD := Lib.hid rd
  have UL := Lib.hid ul
  have WL := Lib.hid wl
  have BB0 := back_b512 ub
  have BL0 : (((backv 512 1 268435456 L).drop 192).take 640).length = 640 := by rw [List.length_take, List.length_drop, backv_len]; rfl
  have BN0 := backv_len 512 1 268435456 L
  have CB0 := fun (w' : World) (h : Hp W w' (rowA 2 .i64 w.heap.size 640 (List.replicate 640 0) :: synA s c lo br v :: slA 2 .i64 v tail :: lapA lo c 512 1 28 :: lapA br c 128 4 27 :: circA c :: l)) => Back512 (w := w') (Hp_lap (h.pk [3, 4])) (rd _ h.drop.drop.drop.drop.drop.drop) ul wl
  rw [show sndL L = shapev (((backv 512 1 268435456 L).drop 192).take 640) from rfl]
  obtain ⟨B, hB⟩ : ∃ B, backv 512 1 268435456 L = B := ⟨_, rfl⟩
  rw [hB] at BB0 BL0 BN0 ⊢
  obtain ⟨Sx, hS⟩ : ∃ Sx, shapev ((B.drop 192).take 640) = Sx := ⟨_, rfl⟩
  have SL : Hid (Sx.length = 640) := Lib.hid (by rw [← hS, shapev_len]; exact BL0)
  rw [hS]
  have XBD : Hid (∀ j, -1073741824 ≤ Sx.getD j 0 ∧ Sx.getD j 0 ≤ 1073741824) := Lib.hid (by rw [← hS]; exact shape_b' (by decide) (sub_bd (by decide) BB0 _ _))
  have HSX := Lib.hid hS
  rw [hB] at CB0
  have CB := Lib.hid CB0
  clear CB0 hB hS
  have hm := mk64 640 (by decide)
  rw [show ((640 : Nat) : Int) = 640 from rfl] at hm
  have H0 := Lib.hid (H.new_row 2 .i64 640 0 (by decide))
  have c0 := H0.out.up1.blk.cell (i := 0) rfl
  have c1 := H0.out.up1.blk.cell (i := 1) rfl
  have c2 := H0.out.up1.blk.cell (i := 2) rfl
  have hlt := H.blk.lt
  obtain ⟨go, hgo⟩ : ∃ go, w.heap.size = go := ⟨_, rfl⟩
  rw [hgo] at H0 CB
  clear H rd ul wl ub
  go_enter Try.func53, Try.ntmps53
  go_wp2_with fail
  refine (CB.out _ H0.out).mono ?_
  rintro e1 w1 ⟨gb, rfl, hgb, hr1, b1⟩
  have H2 := Lib.hid (H0.out.add_row b1 hr1 hgb)
  have BL := Lib.hid BL0
  have BB : Hid (∀ j, -1073741824 ≤ ((B.drop 192).take 640).getD j 0 ∧ ((B.drop 192).take 640).getD j 0 ≤ 1073741824) := Lib.hid (sub_bd (by decide) BB0 _ _)
  have BN : Hid (B.length = 1024) := Lib.hid BN0
  have SB : Hid (∀ w5, Hp W w5 (rowA 21 .i32 gb 1024 B :: rowA 2 .i64 go 640 (List.replicate 640 0) :: synA s c lo br v :: slA 2 .i64 v tail :: lapA lo c 512 1 28 :: lapA br c 128 4 27 :: circA c :: l) → Src w5 .i32 (.slice (some ⟨gb, 192, none⟩) 640 (1024 - 192)) ((B.drop 192).take 640)) := Lib.hid (fun w5 h5 => Src_sub (Sl.row h5.row) rfl _ _ _ (by rw [BN.out]; decide) (by decide))

  clear hr1 b1 hgb H0 c0 c1 c2 BB0 BL0 BN0 CB hm hlt
  go_wp2_with fail
  try rw [hgo]
  refine wp_region_noPanic ?_
  refine wp_region_any (by kernel_rfl) ?_
  try (change wpAny _ _ _ _ _ _ _ (World.drew _))
  refine wpAny_of_held (S := fun w5 => Hp W w5 (rowA 21 .i32 gb 1024 B :: rowA 2 .i64 go 640 (List.replicate 640 0) :: synA s c lo br v :: slA 2 .i64 v tail :: lapA lo c 512 1 28 :: lapA br c 128 4 27 :: circA c :: l)) _ _ _ _ ?_
  have hHeld := H2.out.drew
  refine wpAnyH_take (i := 0) (v := ?_) rfl (by kernel_rfl) (by kernel_rfl) (by kernel_rfl) (fun _ _ _ h => h) (Or.inl ⟨by kernel_rfl, ?_⟩) hHeld ?_
  rotate_left
  · intro w hSw
    first | (go_simp; done) | (go_simp; with_reducible rfl)
  try simp only [Act.put, List.getElem_toArray, List.getElem_cons_zero, List.getElem_cons_succ, List.setIfInBounds_toArray, List.set_cons_zero, List.set_cons_succ]
  refine wpAnyH_take (i := 1) (v := ?_) rfl (by kernel_rfl) (by kernel_rfl) (by kernel_rfl) (fun _ _ _ h => h) (Or.inl ⟨by kernel_rfl, ?_⟩) hHeld ?_
  rotate_left
  · intro w hSw
    first | (go_simp; done) | (go_simp; with_reducible rfl)
  try simp only [Act.put, List.getElem_toArray, List.getElem_cons_zero, List.getElem_cons_succ, List.setIfInBounds_toArray, List.set_cons_zero, List.set_cons_succ]
  refine wpAnyH_take (i := 2) (v := ?_) rfl (by kernel_rfl) (by kernel_rfl) (by kernel_rfl) (fun _ _ _ h => h) (Or.inl ⟨by kernel_rfl, ?_⟩) hHeld ?_
  rotate_left
  · intro w hSw
    first | (go_simp; done) | (go_simp; with_reducible rfl)
  try simp only [Act.put, List.getElem_toArray, List.getElem_cons_zero, List.getElem_cons_succ, List.setIfInBounds_toArray, List.set_cons_zero, List.set_cons_succ]
  refine wpAnyH_take (i := 3) (v := ?_) rfl (by kernel_rfl) (by kernel_rfl) (by kernel_rfl) (fun _ _ _ h => h) (Or.inl ⟨by kernel_rfl, ?_⟩) hHeld ?_
  rotate_left
  · intro w hSw
    have d0 := (Hp.blk (Hp.up2 hSw)).cell (i := 0) rfl
    have d1 := (Hp.blk (Hp.up2 hSw)).cell (i := 1) rfl
    have d2 := (Hp.blk (Hp.up2 hSw)).cell (i := 2) rfl
    first | (go_simp; done) | (go_simp; with_reducible rfl)
  try simp only [Act.put, List.getElem_toArray, List.getElem_cons_zero, List.getElem_cons_succ, List.setIfInBounds_toArray, List.set_cons_zero, List.set_cons_succ]
  refine wpAnyH_take (i := 4) (v := ?_) rfl (by kernel_rfl) (by kernel_rfl) (by kernel_rfl) (fun _ _ _ h => h) (Or.inl ⟨by kernel_rfl, ?_⟩) hHeld ?_
  rotate_left
  · intro w hSw
    first | (go_simp; done) | (go_simp; with_reducible rfl)
  try simp only [Act.put, List.getElem_toArray, List.getElem_cons_zero, List.getElem_cons_succ, List.setIfInBounds_toArray, List.set_cons_zero, List.set_cons_succ]
  refine wpAnyH_take (i := 5) (v := ?_) rfl (by kernel_rfl) (by kernel_rfl) (by kernel_rfl) (fun _ _ _ h => h) (Or.inl ⟨by kernel_rfl, ?_⟩) hHeld ?_
  rotate_left
  · intro w hSw
    first | (go_simp; done) | (go_simp; with_reducible rfl)
  try simp only [Act.put, List.getElem_toArray, List.getElem_cons_zero, List.getElem_cons_succ, List.setIfInBounds_toArray, List.set_cons_zero, List.set_cons_succ]
  refine wpAnyH_take (i := 8) (v := ?_) rfl (by kernel_rfl) (by kernel_rfl) (by kernel_rfl) (fun _ _ _ h => h) (Or.inl ⟨by kernel_rfl, ?_⟩) hHeld ?_
  rotate_left
  · intro w hSw
    first | (go_simp; done) | (go_simp; with_reducible rfl)
  try simp only [Act.put, List.getElem_toArray, List.getElem_cons_zero, List.getElem_cons_succ, List.setIfInBounds_toArray, List.set_cons_zero, List.set_cons_succ]
  refine wpAnyH_ready (rs := [6]) (by kernel_rfl) (by simp) ?_
  refine AllReadyH.cons rfl (fun K hK => ?_) AllReadyH.nil
  go_simp
  go_at_call 51
  refine (shape_calls (Hp.blk (Hp.up6 hHeld)) _ _ (SB.out _ hHeld) BL.out (by decide) (by decide) (fun j => by have := BB.out j; omega)).mono ?_
  rintro e8 w8 ⟨gs, rfl, hgs, hrs, b8⟩
  rw [HSX.out] at hrs
  have H8 := Lib.hid (Hp.add_row hHeld b8 hrs hgs)
  clear hrs b8 hgs
  go_simp
  refine hK.out _ _ (H8.out.drop) (fun hHeld => ?_)
  clear hK K
  try simp only [Act.put, List.getElem_toArray, List.getElem_cons_zero, List.getElem_cons_succ, List.setIfInBounds_toArray, List.set_cons_zero, List.set_cons_succ]
  refine wpAnyH_take (i := 7) (v := ?_) rfl (by kernel_rfl) (by kernel_rfl) (by kernel_rfl) (fun _ _ _ h => h) (Or.inl ⟨by kernel_rfl, ?_⟩) hHeld ?_
  rotate_left
  · intro w hSw
    first | (go_simp; done) | (go_simp; with_reducible rfl)
  try simp only [Act.put, List.getElem_toArray, List.getElem_cons_zero, List.getElem_cons_succ, List.setIfInBounds_toArray, List.set_cons_zero, List.set_cons_succ]
  refine wpAnyH_done (by kernel_rfl) ?_ _
  refine NoPanic.normal ?_
  clear hHeld H2 SB BB
  clear BL BN HSX
  have H3 : Hid (Hp W w8 (rowA 2 .i64 go 640 (fillTo (fun k => Sx.getD k 0) 640 0) :: rowA 21 .i32 gs 640 Sx :: synA s c lo br v :: slA 2 .i64 v tail :: lapA lo c 512 1 28 :: lapA br c 128 4 27 :: circA c :: l)) := Lib.hid (by rw [fillTo_zero]; exact (H8.out.up1.drop).up1)
  clear H8
  have ef := fill_id Sx 640 SL.out
  obtain ⟨f, hf⟩ : ∃ f : Nat → Int, f = fun k => Sx.getD k 0 := ⟨_, rfl⟩
  rw [← hf] at H3 ef
  have EF := Lib.hid ef
  have HF := Lib.hid hf
  clear ef hf
  go_wp2_with fail
  go_loopw [44] (fun u wr => ∃ k : Nat, k ≤ 640 ∧ u = .int .i64 (k : Int) ∧ Hid (Hp W wr (rowA 2 .i64 go 640 (fillTo f 640 k) :: rowA 21 .i32 gs 640 Sx :: synA s c lo br v :: slA 2 .i64 v tail :: lapA lo c 512 1 28 :: lapA br c 128 4 27 :: circA c :: l))) (fun u _ => 640 - (intOf u).toNat)
  case atStart => exact ⟨0, by omega, rfl, H3⟩
  case round =>
    clear H3
    obtain ⟨k, hk, rfl, H⟩ := hrel
    by_cases hlt : k < 640
    · have ik : (k : Int) < 640 := by omega
      have sc := H.out.up1.row.cell (i := k) (by rw [SL.out]; exact hlt)
      have hv : f k = Sx[k]'(by rw [SL.out]; exact hlt) := by
        rw [HF.out]
        show Sx.getD k 0 = _
        rw [List.getD_eq_getElem?_getD, List.getElem?_eq_getElem (by rw [SL.out]; exact hlt), Option.getD_some]
      rw [← hv] at sc
      have fr := H.out.row.free k
      have fc := H.out.row.cell (i := k) (by rw [fillTo_len]; omega)
      rw [fillTo_at] at fc
      have hs := H.out.set k (f k)
      rw [fillTo_set] at hs
      have HS := Lib.hid hs
      have bx := XBD.out k
      have ef : f k = Sx.getD k 0 := by rw [HF.out]
      have wf : wrap64 (f k) = f k := by rw [ef]; unfold wrap64; omega
      clear ef
      clear hs hv
      go_wp2_with fail
      go_roundw
      case rel => exact ⟨k + 1, by omega, by go_num, HS⟩
      case measure => simp [intOf]; omega
    · obtain rfl : k = 640 := by omega
      rw [EF.out] at H
      have H4 := Lib.hid (H.out.up1.drop)
      clear H
      go_wp2_with fail
      go_ret2
      exact ⟨_, rfl, H4.out⟩
set_option maxHeartbeats 4000000 in
set_option maxRecDepth 100000 in
theorem sound_brief {W w : World} {l : List Ast} {s c lo br : Nat} {v : Value} {tail : List Int} (H : Hp W w (synA s c lo br v :: slA 2 .i64 v tail :: lapA lo c 512 1 28 :: lapA br c 128 4 27 :: circA c :: l)) {A : Option Addr} {cap : Nat} {L : List Int} (rd : Rd W l .i32 (.slice A 512 cap) L) (ul : L.length = 512) (ub : ∀ j, -33554432 ≤ L.getD j 0 ∧ L.getD j 0 < 33554432) (wl : within 33554432 L = true) :
    Calls Try.prog 53 #[.pointer (some ⟨s, 0, none⟩), .slice A 512 cap, .bool true] w fun e w' => ∃ g, e = .returned (.tuple #[.slice (some ⟨g, 0, none⟩) 640 640, .int .i64 0]) ∧ Hp W w' (rowA 2 .i64 g 640 (snd true L) :: synA s c lo br v :: slA 2 .i64 v tail :: lapA lo c 512 1 28 :: lapA br c 128 4 27 :: circA c :: l) := by
  rw [snd_accv]
  have RD := Lib.hid rd
  have UL := Lib.hid ul
  have UB := Lib.hid ub
  have hm := mk64 640 (by decide)
  rw [show ((640 : Nat) : Int) = 640 from rfl] at hm
  have hm2 := mk32 128 (by decide)
  rw [show ((128 : Nat) : Int) = 128 from rfl] at hm2
  have H0 := H.new_row 2 .i64 640 0 (by decide)
  rw [← accv_zero L] at H0
  have H0 := Lib.hid H0
  obtain ⟨go, hgo⟩ : ∃ go, w.heap.size = go := ⟨_, rfl⟩
  rw [hgo] at H0
  clear H rd ul wl ub
  go_enter Try.func53, Try.ntmps53
  go_wp2_with fail
  try rw [hgo]
  clear hgo
  go_loopw [56] (fun u wr => ∃ m : Nat, m ≤ 4 ∧ u = .int .i64 (m : Int) ∧ Hid (Hp W wr (rowA 2 .i64 go 640 (accv L m) :: synA s c lo br v :: slA 2 .i64 v tail :: lapA lo c 512 1 28 :: lapA br c 128 4 27 :: circA c :: l))) (fun u _ => 4 - (intOf u).toNat)
  case atStart => exact ⟨0, by omega, rfl, H0⟩
  case round =>
    clear H0
    obtain ⟨m, hm4, rfl, H⟩ := hrel
    by_cases mlt : m < 4
    · rcases (show m = 0 ∨ m = 1 ∨ m = 2 ∨ m = 3 by omega) with rfl | rfl | rfl | rfl
      · obtain ⟨fb, hfb⟩ : ∃ fb : Nat → Int, fb = fun k => L.getD (4 * k + 0) 0 := ⟨_, rfl⟩
        have EB : Hid (fillTo fb 128 128 = prt 0 L) := Lib.hid (by rw [prt_fill, hfb])
        have HB := Lib.hid hfb
        obtain ⟨gk, hgk⟩ : ∃ gk, wr.heap.size = gk := ⟨_, rfl⟩
        have H1 : Hid (Hp W (wr.alloc (.cells (madeCells #[.int .i32 0] 128) 21)) (rowA 21 .i32 gk 128 (fillTo fb 128 0) :: rowA 2 .i64 go 640 (accv L 0) :: synA s c lo br v :: slA 2 .i64 v tail :: lapA lo c 512 1 28 :: lapA br c 128 4 27 :: circA c :: l)) := Lib.hid (by rw [fillTo_zero, ← hgk]; exact H.out.new_row 21 .i32 128 0 (by decide))
        clear hfb H
        go_wp2_with fail
        try rw [hgk]
        clear hgk
        go_loopw [62] (fun u wr => ∃ k : Nat, k ≤ 128 ∧ u = .int .i64 (k : Int) ∧ Hid (Hp W wr (rowA 21 .i32 gk 128 (fillTo fb 128 k) :: rowA 2 .i64 go 640 (accv L 0) :: synA s c lo br v :: slA 2 .i64 v tail :: lapA lo c 512 1 28 :: lapA br c 128 4 27 :: circA c :: l))) (fun u _ => 128 - (intOf u).toNat)
        case atStart => exact ⟨0, by omega, rfl, H1⟩
        case round =>
          clear H1
          obtain ⟨k, hk, rfl, H⟩ := hrel
          by_cases hlt : k < 128
          · have ik : (k : Int) < 128 := by omega
            obtain ⟨i1, hi1⟩ : ∃ i1 : Nat, i1 = 4 * k + 0 := ⟨_, rfl⟩
            obtain ⟨ad, rfl, hc⟩ := Src.at (RD.out _ H.out.drop.drop.drop.drop.drop.drop.drop) (j := i1) (by rw [UL.out]; omega)
            have hv : fb k = L.getD i1 0 := by rw [HB.out, hi1]
            rw [← hv] at hc
            have fr := H.out.row.free k
            have fc := H.out.row.cell (i := k) (by rw [fillTo_len]; omega)
            rw [fillTo_at] at fc
            have hs := H.out.set k (fb k)
            rw [fillTo_set] at hs
            have HS := Lib.hid hs
            have e0 : IntKind.i64.wrap (4 * (k : Int)) = (i1 : Int) := by rw [wrapI64 (by omega) (by omega)]; omega
            have e1 : IntKind.i64.wrap (i1 : Int) = (i1 : Int) := wrapI64 (by omega) (by omega)
            have i2 : (i1 : Int) < 512 := by omega
            have i3 : i1 < 512 := by omega
            clear hs hv
            have HI := Lib.hid hi1
            clear hi1
            go_wp2_with fail
            go_roundw
            case rel => exact ⟨k + 1, by omega, by go_num, HS⟩
            case measure => simp [intOf]; omega
          · obtain rfl : k = 128 := by omega
            rw [EB.out] at H
            have c0 := H.out.up2.blk.cell (i := 0) rfl
            have c1 := H.out.up2.blk.cell (i := 1) rfl
            have c2 := H.out.up2.blk.cell (i := 2) rfl
            have pl : (prt 0 L).length = 128 := by rw [← EB.out, fillTo_len]
            have sx := Src.of_sl (Sl.row H.out.row)
            rw [pl] at sx
            go_wp2_with fail
            refine (Back128 (Hp_lap (H.out.pk [5, 5])) sx pl (prt_within UB.out 0)).mono ?_
            rintro e1 w1 ⟨gb, rfl, hgb, hr1, b1⟩
            have H2 := Lib.hid ((H.out.add_row b1 hr1 hgb).up1.drop)
            have bb := back_b128 (prt_b UB.out 0)
            clear hr1 b1 hgb H c0 c1 c2 pl sx EB HB
            have bl : (backv 128 4 134217728 (prt 0 L)).length = 256 := backv_len _ _ _ _
            have eS : shapev (backv 128 4 134217728 (prt 0 L)) = prtS 0 L := rfl
            obtain ⟨B, hB⟩ : ∃ B, backv 128 4 134217728 (prt 0 L) = B := ⟨_, rfl⟩
            rw [hB] at H2 bb bl eS
            have d0 := H2.out.up2.blk.cell (i := 0) rfl
            have d1 := H2.out.up2.blk.cell (i := 1) rfl
            have d2 := H2.out.up2.blk.cell (i := 2) rfl
            have sx := Src.of_sl (Sl.row H2.out.row)
            rw [bl] at sx
            have BB := Lib.hid bb
            have ES := Lib.hid eS
            clear bb hB eS
            go_wp2_with fail
            refine (shape_calls (Hp.blk (Hp.up6 H2.out)) _ _ sx bl (by decide) (by decide) (fun j => by have := BB.out j; omega)).mono ?_
            rintro e2 w2 ⟨gs, rfl, hgs, hr2, b2⟩
            rw [ES.out] at hr2
            have H3 := Lib.hid ((H2.out.add_row b2 hr2 hgs).up1.drop.up1)
            clear hr2 b2 hgs H2 d0 d1 d2 sx bl BB ES
            rw [← mix_first L 0] at H3
            have SL : Hid ((prtS 0 L).length = 256) := Lib.hid (prtS_len _ _)
            have SB := Lib.hid (prtS_b UB.out 0)
            have AO : Hid (∀ i, i < 256 → acc L (1) (0 + i) = acc L 0 (0 + i) + (prtS 0 L).getD i 0) := Lib.hid (fun i hi => acc_on (L := L) (m := 0) hi)
            have AB := Lib.hid (acc_b UB.out 0)
            obtain ⟨Sx, hS⟩ : ∃ Sx, prtS 0 L = Sx := ⟨_, rfl⟩
            rw [hS] at SL SB AO H3
            clear hS
            rw [show 128 * 0 = 0 from rfl] at H3
            go_wp2_with fail
            go_loopw [96] (fun u wr => ∃ k : Nat, k ≤ 256 ∧ u = .int .i64 (k : Int) ∧ Hid (Hp W wr (rowA 2 .i64 go 640 (mixTo (acc L (1)) (acc L 0) 640 (0 + k)) :: rowA 21 .i32 gs 256 Sx :: synA s c lo br v :: slA 2 .i64 v tail :: lapA lo c 512 1 28 :: lapA br c 128 4 27 :: circA c :: l))) (fun u _ => 256 - (intOf u).toNat)
            case atStart => exact ⟨0, by omega, rfl, H3⟩
            case round =>
              clear H3
              obtain ⟨k, hk, rfl, H⟩ := hrel
              by_cases hlt : k < 256
              · have ik : (k : Int) < 256 := by omega
                have sc := H.out.up1.row.cell (i := k) (by rw [SL.out]; exact hlt)
                have sg : Sx[k]'(by rw [SL.out]; exact hlt) = Sx.getD k 0 := by rw [List.getD_eq_getElem?_getD, List.getElem?_eq_getElem (by rw [SL.out]; exact hlt), Option.getD_some]
                rw [sg] at sc
                have sb := SB.out k
                have ao := AO.out k hlt
                obtain ⟨i1, hi1⟩ : ∃ i1 : Nat, i1 = 0 + k := ⟨_, rfl⟩
                rw [← hi1] at H ao
                have ab := AB.out i1
                have fr := H.out.row.free i1
                have fc := H.out.row.cell (i := i1) (by rw [mix_len]; omega)
                rw [mix_at, if_neg (Nat.lt_irrefl _)] at fc
                have hs := H.out.set i1 (acc L (1) i1)
                rw [mix_set, ao] at hs
                have HS := Lib.hid hs
                obtain ⟨x, hx⟩ : ∃ x, Sx.getD k 0 = x := ⟨_, rfl⟩
                obtain ⟨y, hy⟩ : ∃ y, acc L 0 i1 = y := ⟨_, rfl⟩
                rw [hx] at sc sb HS
                rw [hy] at fc ab HS
                have e0 : IntKind.i64.wrap (0 * 128) = 0 := by decide
                have e00 : IntKind.i64.wrap 0 = 0 := by decide
                have e1 : IntKind.i64.wrap (k : Int) = (i1 : Int) := by rw [wrapI64 (by omega) (by omega)]; omega
                have e2 : IntKind.i64.wrap (y + x) = y + x := wrapI64 (by omega) (by omega)
                have i2 : (i1 : Int) < 640 := by omega
                have i3 : i1 < 640 := by omega
                have HI := Lib.hid hi1
                clear hs hx hy sg ao hi1
                go_wp2_with fail
                go_roundw
                case rel => exact ⟨k + 1, by omega, by go_num, by rw [show 0 + (k + 1) = i1 + 1 by have := HI.out; omega]; exact HS⟩
                case measure => simp [intOf]; omega
              · obtain rfl : k = 256 := by omega
                have H4 : Hid (Hp W wr (rowA 2 .i64 go 640 (accv L (1)) :: synA s c lo br v :: slA 2 .i64 v tail :: lapA lo c 512 1 28 :: lapA br c 128 4 27 :: circA c :: l)) := Lib.hid (Hp.blkrow (H.out.up1.drop) (mix_last L 0))
                clear H SL SB AO AB
                go_wp2_with fail
                go_roundw
                case rel => exact ⟨1, by omega, by go_num, H4⟩
                case measure => simp [intOf]
      · obtain ⟨fb, hfb⟩ : ∃ fb : Nat → Int, fb = fun k => L.getD (4 * k + 1) 0 := ⟨_, rfl⟩
        have EB : Hid (fillTo fb 128 128 = prt 1 L) := Lib.hid (by rw [prt_fill, hfb])
        have HB := Lib.hid hfb
        obtain ⟨gk, hgk⟩ : ∃ gk, wr.heap.size = gk := ⟨_, rfl⟩
        have H1 : Hid (Hp W (wr.alloc (.cells (madeCells #[.int .i32 0] 128) 21)) (rowA 21 .i32 gk 128 (fillTo fb 128 0) :: rowA 2 .i64 go 640 (accv L 1) :: synA s c lo br v :: slA 2 .i64 v tail :: lapA lo c 512 1 28 :: lapA br c 128 4 27 :: circA c :: l)) := Lib.hid (by rw [fillTo_zero, ← hgk]; exact H.out.new_row 21 .i32 128 0 (by decide))
        clear hfb H
        go_wp2_with fail
        try rw [hgk]
        clear hgk
        go_loopw [62] (fun u wr => ∃ k : Nat, k ≤ 128 ∧ u = .int .i64 (k : Int) ∧ Hid (Hp W wr (rowA 21 .i32 gk 128 (fillTo fb 128 k) :: rowA 2 .i64 go 640 (accv L 1) :: synA s c lo br v :: slA 2 .i64 v tail :: lapA lo c 512 1 28 :: lapA br c 128 4 27 :: circA c :: l))) (fun u _ => 128 - (intOf u).toNat)
        case atStart => exact ⟨0, by omega, rfl, H1⟩
        case round =>
          clear H1
          obtain ⟨k, hk, rfl, H⟩ := hrel
          by_cases hlt : k < 128
          · have ik : (k : Int) < 128 := by omega
            obtain ⟨i1, hi1⟩ : ∃ i1 : Nat, i1 = 4 * k + 1 := ⟨_, rfl⟩
            obtain ⟨ad, rfl, hc⟩ := Src.at (RD.out _ H.out.drop.drop.drop.drop.drop.drop.drop) (j := i1) (by rw [UL.out]; omega)
            have hv : fb k = L.getD i1 0 := by rw [HB.out, hi1]
            rw [← hv] at hc
            have fr := H.out.row.free k
            have fc := H.out.row.cell (i := k) (by rw [fillTo_len]; omega)
            rw [fillTo_at] at fc
            have hs := H.out.set k (fb k)
            rw [fillTo_set] at hs
            have HS := Lib.hid hs
            have e0 : IntKind.i64.wrap (4 * (k : Int)) = 4 * k := wrapI64 (by omega) (by omega)
            have e1 : IntKind.i64.wrap (4 * (k : Int) + 1) = (i1 : Int) := by rw [wrapI64 (by omega) (by omega)]; omega
            have i2 : (i1 : Int) < 512 := by omega
            have i3 : i1 < 512 := by omega
            clear hs hv
            have HI := Lib.hid hi1
            clear hi1
            go_wp2_with fail
            go_roundw
            case rel => exact ⟨k + 1, by omega, by go_num, HS⟩
            case measure => simp [intOf]; omega
          · obtain rfl : k = 128 := by omega
            rw [EB.out] at H
            have c0 := H.out.up2.blk.cell (i := 0) rfl
            have c1 := H.out.up2.blk.cell (i := 1) rfl
            have c2 := H.out.up2.blk.cell (i := 2) rfl
            have pl : (prt 1 L).length = 128 := by rw [← EB.out, fillTo_len]
            have sx := Src.of_sl (Sl.row H.out.row)
            rw [pl] at sx
            go_wp2_with fail
            refine (Back128 (Hp_lap (H.out.pk [5, 5])) sx pl (prt_within UB.out 1)).mono ?_
            rintro e1 w1 ⟨gb, rfl, hgb, hr1, b1⟩
            have H2 := Lib.hid ((H.out.add_row b1 hr1 hgb).up1.drop)
            have bb := back_b128 (prt_b UB.out 1)
            clear hr1 b1 hgb H c0 c1 c2 pl sx EB HB
            have bl : (backv 128 4 134217728 (prt 1 L)).length = 256 := backv_len _ _ _ _
            have eS : shapev (backv 128 4 134217728 (prt 1 L)) = prtS 1 L := rfl
            obtain ⟨B, hB⟩ : ∃ B, backv 128 4 134217728 (prt 1 L) = B := ⟨_, rfl⟩
            rw [hB] at H2 bb bl eS
            have d0 := H2.out.up2.blk.cell (i := 0) rfl
            have d1 := H2.out.up2.blk.cell (i := 1) rfl
            have d2 := H2.out.up2.blk.cell (i := 2) rfl
            have sx := Src.of_sl (Sl.row H2.out.row)
            rw [bl] at sx
            have BB := Lib.hid bb
            have ES := Lib.hid eS
            clear bb hB eS
            go_wp2_with fail
            refine (shape_calls (Hp.blk (Hp.up6 H2.out)) _ _ sx bl (by decide) (by decide) (fun j => by have := BB.out j; omega)).mono ?_
            rintro e2 w2 ⟨gs, rfl, hgs, hr2, b2⟩
            rw [ES.out] at hr2
            have H3 := Lib.hid ((H2.out.add_row b2 hr2 hgs).up1.drop.up1)
            clear hr2 b2 hgs H2 d0 d1 d2 sx bl BB ES
            rw [← mix_first L 1] at H3
            have SL : Hid ((prtS 1 L).length = 256) := Lib.hid (prtS_len _ _)
            have SB := Lib.hid (prtS_b UB.out 1)
            have AO : Hid (∀ i, i < 256 → acc L (2) (128 + i) = acc L 1 (128 + i) + (prtS 1 L).getD i 0) := Lib.hid (fun i hi => acc_on (L := L) (m := 1) hi)
            have AB := Lib.hid (acc_b UB.out 1)
            obtain ⟨Sx, hS⟩ : ∃ Sx, prtS 1 L = Sx := ⟨_, rfl⟩
            rw [hS] at SL SB AO H3
            clear hS
            rw [show 128 * 1 = 128 from rfl] at H3
            go_wp2_with fail
            go_loopw [96] (fun u wr => ∃ k : Nat, k ≤ 256 ∧ u = .int .i64 (k : Int) ∧ Hid (Hp W wr (rowA 2 .i64 go 640 (mixTo (acc L (2)) (acc L 1) 640 (128 + k)) :: rowA 21 .i32 gs 256 Sx :: synA s c lo br v :: slA 2 .i64 v tail :: lapA lo c 512 1 28 :: lapA br c 128 4 27 :: circA c :: l))) (fun u _ => 256 - (intOf u).toNat)
            case atStart => exact ⟨0, by omega, rfl, H3⟩
            case round =>
              clear H3
              obtain ⟨k, hk, rfl, H⟩ := hrel
              by_cases hlt : k < 256
              · have ik : (k : Int) < 256 := by omega
                have sc := H.out.up1.row.cell (i := k) (by rw [SL.out]; exact hlt)
                have sg : Sx[k]'(by rw [SL.out]; exact hlt) = Sx.getD k 0 := by rw [List.getD_eq_getElem?_getD, List.getElem?_eq_getElem (by rw [SL.out]; exact hlt), Option.getD_some]
                rw [sg] at sc
                have sb := SB.out k
                have ao := AO.out k hlt
                obtain ⟨i1, hi1⟩ : ∃ i1 : Nat, i1 = 128 + k := ⟨_, rfl⟩
                rw [← hi1] at H ao
                have ab := AB.out i1
                have fr := H.out.row.free i1
                have fc := H.out.row.cell (i := i1) (by rw [mix_len]; omega)
                rw [mix_at, if_neg (Nat.lt_irrefl _)] at fc
                have hs := H.out.set i1 (acc L (2) i1)
                rw [mix_set, ao] at hs
                have HS := Lib.hid hs
                obtain ⟨x, hx⟩ : ∃ x, Sx.getD k 0 = x := ⟨_, rfl⟩
                obtain ⟨y, hy⟩ : ∃ y, acc L 1 i1 = y := ⟨_, rfl⟩
                rw [hx] at sc sb HS
                rw [hy] at fc ab HS
                have e0 : IntKind.i64.wrap (1 * 128) = 128 := by decide
                have e00 : IntKind.i64.wrap 128 = 128 := by decide
                have e1 : IntKind.i64.wrap (128 + (k : Int)) = (i1 : Int) := by rw [wrapI64 (by omega) (by omega)]; omega
                have e2 : IntKind.i64.wrap (y + x) = y + x := wrapI64 (by omega) (by omega)
                have i2 : (i1 : Int) < 640 := by omega
                have i3 : i1 < 640 := by omega
                have HI := Lib.hid hi1
                clear hs hx hy sg ao hi1
                go_wp2_with fail
                go_roundw
                case rel => exact ⟨k + 1, by omega, by go_num, by rw [show 128 + (k + 1) = i1 + 1 by have := HI.out; omega]; exact HS⟩
                case measure => simp [intOf]; omega
              · obtain rfl : k = 256 := by omega
                have H4 : Hid (Hp W wr (rowA 2 .i64 go 640 (accv L (2)) :: synA s c lo br v :: slA 2 .i64 v tail :: lapA lo c 512 1 28 :: lapA br c 128 4 27 :: circA c :: l)) := Lib.hid (Hp.blkrow (H.out.up1.drop) (mix_last L 1))
                clear H SL SB AO AB
                go_wp2_with fail
                go_roundw
                case rel => exact ⟨2, by omega, by go_num, H4⟩
                case measure => simp [intOf]
      · obtain ⟨fb, hfb⟩ : ∃ fb : Nat → Int, fb = fun k => L.getD (4 * k + 2) 0 := ⟨_, rfl⟩
        have EB : Hid (fillTo fb 128 128 = prt 2 L) := Lib.hid (by rw [prt_fill, hfb])
        have HB := Lib.hid hfb
        obtain ⟨gk, hgk⟩ : ∃ gk, wr.heap.size = gk := ⟨_, rfl⟩
        have H1 : Hid (Hp W (wr.alloc (.cells (madeCells #[.int .i32 0] 128) 21)) (rowA 21 .i32 gk 128 (fillTo fb 128 0) :: rowA 2 .i64 go 640 (accv L 2) :: synA s c lo br v :: slA 2 .i64 v tail :: lapA lo c 512 1 28 :: lapA br c 128 4 27 :: circA c :: l)) := Lib.hid (by rw [fillTo_zero, ← hgk]; exact H.out.new_row 21 .i32 128 0 (by decide))
        clear hfb H
        go_wp2_with fail
        try rw [hgk]
        clear hgk
        go_loopw [62] (fun u wr => ∃ k : Nat, k ≤ 128 ∧ u = .int .i64 (k : Int) ∧ Hid (Hp W wr (rowA 21 .i32 gk 128 (fillTo fb 128 k) :: rowA 2 .i64 go 640 (accv L 2) :: synA s c lo br v :: slA 2 .i64 v tail :: lapA lo c 512 1 28 :: lapA br c 128 4 27 :: circA c :: l))) (fun u _ => 128 - (intOf u).toNat)
        case atStart => exact ⟨0, by omega, rfl, H1⟩
        case round =>
          clear H1
          obtain ⟨k, hk, rfl, H⟩ := hrel
          by_cases hlt : k < 128
          · have ik : (k : Int) < 128 := by omega
            obtain ⟨i1, hi1⟩ : ∃ i1 : Nat, i1 = 4 * k + 2 := ⟨_, rfl⟩
            obtain ⟨ad, rfl, hc⟩ := Src.at (RD.out _ H.out.drop.drop.drop.drop.drop.drop.drop) (j := i1) (by rw [UL.out]; omega)
            have hv : fb k = L.getD i1 0 := by rw [HB.out, hi1]
            rw [← hv] at hc
            have fr := H.out.row.free k
            have fc := H.out.row.cell (i := k) (by rw [fillTo_len]; omega)
            rw [fillTo_at] at fc
            have hs := H.out.set k (fb k)
            rw [fillTo_set] at hs
            have HS := Lib.hid hs
            have e0 : IntKind.i64.wrap (4 * (k : Int)) = 4 * k := wrapI64 (by omega) (by omega)
            have e1 : IntKind.i64.wrap (4 * (k : Int) + 2) = (i1 : Int) := by rw [wrapI64 (by omega) (by omega)]; omega
            have i2 : (i1 : Int) < 512 := by omega
            have i3 : i1 < 512 := by omega
            clear hs hv
            have HI := Lib.hid hi1
            clear hi1
            go_wp2_with fail
            go_roundw
            case rel => exact ⟨k + 1, by omega, by go_num, HS⟩
            case measure => simp [intOf]; omega
          · obtain rfl : k = 128 := by omega
            rw [EB.out] at H
            have c0 := H.out.up2.blk.cell (i := 0) rfl
            have c1 := H.out.up2.blk.cell (i := 1) rfl
            have c2 := H.out.up2.blk.cell (i := 2) rfl
            have pl : (prt 2 L).length = 128 := by rw [← EB.out, fillTo_len]
            have sx := Src.of_sl (Sl.row H.out.row)
            rw [pl] at sx
            go_wp2_with fail
            refine (Back128 (Hp_lap (H.out.pk [5, 5])) sx pl (prt_within UB.out 2)).mono ?_
            rintro e1 w1 ⟨gb, rfl, hgb, hr1, b1⟩
            have H2 := Lib.hid ((H.out.add_row b1 hr1 hgb).up1.drop)
            have bb := back_b128 (prt_b UB.out 2)
            clear hr1 b1 hgb H c0 c1 c2 pl sx EB HB
            have bl : (backv 128 4 134217728 (prt 2 L)).length = 256 := backv_len _ _ _ _
            have eS : shapev (backv 128 4 134217728 (prt 2 L)) = prtS 2 L := rfl
            obtain ⟨B, hB⟩ : ∃ B, backv 128 4 134217728 (prt 2 L) = B := ⟨_, rfl⟩
            rw [hB] at H2 bb bl eS
            have d0 := H2.out.up2.blk.cell (i := 0) rfl
            have d1 := H2.out.up2.blk.cell (i := 1) rfl
            have d2 := H2.out.up2.blk.cell (i := 2) rfl
            have sx := Src.of_sl (Sl.row H2.out.row)
            rw [bl] at sx
            have BB := Lib.hid bb
            have ES := Lib.hid eS
            clear bb hB eS
            go_wp2_with fail
            refine (shape_calls (Hp.blk (Hp.up6 H2.out)) _ _ sx bl (by decide) (by decide) (fun j => by have := BB.out j; omega)).mono ?_
            rintro e2 w2 ⟨gs, rfl, hgs, hr2, b2⟩
            rw [ES.out] at hr2
            have H3 := Lib.hid ((H2.out.add_row b2 hr2 hgs).up1.drop.up1)
            clear hr2 b2 hgs H2 d0 d1 d2 sx bl BB ES
            rw [← mix_first L 2] at H3
            have SL : Hid ((prtS 2 L).length = 256) := Lib.hid (prtS_len _ _)
            have SB := Lib.hid (prtS_b UB.out 2)
            have AO : Hid (∀ i, i < 256 → acc L (3) (256 + i) = acc L 2 (256 + i) + (prtS 2 L).getD i 0) := Lib.hid (fun i hi => acc_on (L := L) (m := 2) hi)
            have AB := Lib.hid (acc_b UB.out 2)
            obtain ⟨Sx, hS⟩ : ∃ Sx, prtS 2 L = Sx := ⟨_, rfl⟩
            rw [hS] at SL SB AO H3
            clear hS
            rw [show 128 * 2 = 256 from rfl] at H3
            go_wp2_with fail
            go_loopw [96] (fun u wr => ∃ k : Nat, k ≤ 256 ∧ u = .int .i64 (k : Int) ∧ Hid (Hp W wr (rowA 2 .i64 go 640 (mixTo (acc L (3)) (acc L 2) 640 (256 + k)) :: rowA 21 .i32 gs 256 Sx :: synA s c lo br v :: slA 2 .i64 v tail :: lapA lo c 512 1 28 :: lapA br c 128 4 27 :: circA c :: l))) (fun u _ => 256 - (intOf u).toNat)
            case atStart => exact ⟨0, by omega, rfl, H3⟩
            case round =>
              clear H3
              obtain ⟨k, hk, rfl, H⟩ := hrel
              by_cases hlt : k < 256
              · have ik : (k : Int) < 256 := by omega
                have sc := H.out.up1.row.cell (i := k) (by rw [SL.out]; exact hlt)
                have sg : Sx[k]'(by rw [SL.out]; exact hlt) = Sx.getD k 0 := by rw [List.getD_eq_getElem?_getD, List.getElem?_eq_getElem (by rw [SL.out]; exact hlt), Option.getD_some]
                rw [sg] at sc
                have sb := SB.out k
                have ao := AO.out k hlt
                obtain ⟨i1, hi1⟩ : ∃ i1 : Nat, i1 = 256 + k := ⟨_, rfl⟩
                rw [← hi1] at H ao
                have ab := AB.out i1
                have fr := H.out.row.free i1
                have fc := H.out.row.cell (i := i1) (by rw [mix_len]; omega)
                rw [mix_at, if_neg (Nat.lt_irrefl _)] at fc
                have hs := H.out.set i1 (acc L (3) i1)
                rw [mix_set, ao] at hs
                have HS := Lib.hid hs
                obtain ⟨x, hx⟩ : ∃ x, Sx.getD k 0 = x := ⟨_, rfl⟩
                obtain ⟨y, hy⟩ : ∃ y, acc L 2 i1 = y := ⟨_, rfl⟩
                rw [hx] at sc sb HS
                rw [hy] at fc ab HS
                have e0 : IntKind.i64.wrap (2 * 128) = 256 := by decide
                have e00 : IntKind.i64.wrap 256 = 256 := by decide
                have e1 : IntKind.i64.wrap (256 + (k : Int)) = (i1 : Int) := by rw [wrapI64 (by omega) (by omega)]; omega
                have e2 : IntKind.i64.wrap (y + x) = y + x := wrapI64 (by omega) (by omega)
                have i2 : (i1 : Int) < 640 := by omega
                have i3 : i1 < 640 := by omega
                have HI := Lib.hid hi1
                clear hs hx hy sg ao hi1
                go_wp2_with fail
                go_roundw
                case rel => exact ⟨k + 1, by omega, by go_num, by rw [show 256 + (k + 1) = i1 + 1 by have := HI.out; omega]; exact HS⟩
                case measure => simp [intOf]; omega
              · obtain rfl : k = 256 := by omega
                have H4 : Hid (Hp W wr (rowA 2 .i64 go 640 (accv L (3)) :: synA s c lo br v :: slA 2 .i64 v tail :: lapA lo c 512 1 28 :: lapA br c 128 4 27 :: circA c :: l)) := Lib.hid (Hp.blkrow (H.out.up1.drop) (mix_last L 2))
                clear H SL SB AO AB
                go_wp2_with fail
                go_roundw
                case rel => exact ⟨3, by omega, by go_num, H4⟩
                case measure => simp [intOf]
      · obtain ⟨fb, hfb⟩ : ∃ fb : Nat → Int, fb = fun k => L.getD (4 * k + 3) 0 := ⟨_, rfl⟩
        have EB : Hid (fillTo fb 128 128 = prt 3 L) := Lib.hid (by rw [prt_fill, hfb])
        have HB := Lib.hid hfb
        obtain ⟨gk, hgk⟩ : ∃ gk, wr.heap.size = gk := ⟨_, rfl⟩
        have H1 : Hid (Hp W (wr.alloc (.cells (madeCells #[.int .i32 0] 128) 21)) (rowA 21 .i32 gk 128 (fillTo fb 128 0) :: rowA 2 .i64 go 640 (accv L 3) :: synA s c lo br v :: slA 2 .i64 v tail :: lapA lo c 512 1 28 :: lapA br c 128 4 27 :: circA c :: l)) := Lib.hid (by rw [fillTo_zero, ← hgk]; exact H.out.new_row 21 .i32 128 0 (by decide))
        clear hfb H
        go_wp2_with fail
        try rw [hgk]
        clear hgk
        go_loopw [62] (fun u wr => ∃ k : Nat, k ≤ 128 ∧ u = .int .i64 (k : Int) ∧ Hid (Hp W wr (rowA 21 .i32 gk 128 (fillTo fb 128 k) :: rowA 2 .i64 go 640 (accv L 3) :: synA s c lo br v :: slA 2 .i64 v tail :: lapA lo c 512 1 28 :: lapA br c 128 4 27 :: circA c :: l))) (fun u _ => 128 - (intOf u).toNat)
        case atStart => exact ⟨0, by omega, rfl, H1⟩
        case round =>
          clear H1
          obtain ⟨k, hk, rfl, H⟩ := hrel
          by_cases hlt : k < 128
          · have ik : (k : Int) < 128 := by omega
            obtain ⟨i1, hi1⟩ : ∃ i1 : Nat, i1 = 4 * k + 3 := ⟨_, rfl⟩
            obtain ⟨ad, rfl, hc⟩ := Src.at (RD.out _ H.out.drop.drop.drop.drop.drop.drop.drop) (j := i1) (by rw [UL.out]; omega)
            have hv : fb k = L.getD i1 0 := by rw [HB.out, hi1]
            rw [← hv] at hc
            have fr := H.out.row.free k
            have fc := H.out.row.cell (i := k) (by rw [fillTo_len]; omega)
            rw [fillTo_at] at fc
            have hs := H.out.set k (fb k)
            rw [fillTo_set] at hs
            have HS := Lib.hid hs
            have e0 : IntKind.i64.wrap (4 * (k : Int)) = 4 * k := wrapI64 (by omega) (by omega)
            have e1 : IntKind.i64.wrap (4 * (k : Int) + 3) = (i1 : Int) := by rw [wrapI64 (by omega) (by omega)]; omega
            have i2 : (i1 : Int) < 512 := by omega
            have i3 : i1 < 512 := by omega
            clear hs hv
            have HI := Lib.hid hi1
            clear hi1
            go_wp2_with fail
            go_roundw
            case rel => exact ⟨k + 1, by omega, by go_num, HS⟩
            case measure => simp [intOf]; omega
          · obtain rfl : k = 128 := by omega
            rw [EB.out] at H
            have c0 := H.out.up2.blk.cell (i := 0) rfl
            have c1 := H.out.up2.blk.cell (i := 1) rfl
            have c2 := H.out.up2.blk.cell (i := 2) rfl
            have pl : (prt 3 L).length = 128 := by rw [← EB.out, fillTo_len]
            have sx := Src.of_sl (Sl.row H.out.row)
            rw [pl] at sx
            go_wp2_with fail
            refine (Back128 (Hp_lap (H.out.pk [5, 5])) sx pl (prt_within UB.out 3)).mono ?_
            rintro e1 w1 ⟨gb, rfl, hgb, hr1, b1⟩
            have H2 := Lib.hid ((H.out.add_row b1 hr1 hgb).up1.drop)
            have bb := back_b128 (prt_b UB.out 3)
            clear hr1 b1 hgb H c0 c1 c2 pl sx EB HB
            have bl : (backv 128 4 134217728 (prt 3 L)).length = 256 := backv_len _ _ _ _
            have eS : shapev (backv 128 4 134217728 (prt 3 L)) = prtS 3 L := rfl
            obtain ⟨B, hB⟩ : ∃ B, backv 128 4 134217728 (prt 3 L) = B := ⟨_, rfl⟩
            rw [hB] at H2 bb bl eS
            have d0 := H2.out.up2.blk.cell (i := 0) rfl
            have d1 := H2.out.up2.blk.cell (i := 1) rfl
            have d2 := H2.out.up2.blk.cell (i := 2) rfl
            have sx := Src.of_sl (Sl.row H2.out.row)
            rw [bl] at sx
            have BB := Lib.hid bb
            have ES := Lib.hid eS
            clear bb hB eS
            go_wp2_with fail
            refine (shape_calls (Hp.blk (Hp.up6 H2.out)) _ _ sx bl (by decide) (by decide) (fun j => by have := BB.out j; omega)).mono ?_
            rintro e2 w2 ⟨gs, rfl, hgs, hr2, b2⟩
            rw [ES.out] at hr2
            have H3 := Lib.hid ((H2.out.add_row b2 hr2 hgs).up1.drop.up1)
            clear hr2 b2 hgs H2 d0 d1 d2 sx bl BB ES
            rw [← mix_first L 3] at H3
            have SL : Hid ((prtS 3 L).length = 256) := Lib.hid (prtS_len _ _)
            have SB := Lib.hid (prtS_b UB.out 3)
            have AO : Hid (∀ i, i < 256 → acc L (4) (384 + i) = acc L 3 (384 + i) + (prtS 3 L).getD i 0) := Lib.hid (fun i hi => acc_on (L := L) (m := 3) hi)
            have AB := Lib.hid (acc_b UB.out 3)
            obtain ⟨Sx, hS⟩ : ∃ Sx, prtS 3 L = Sx := ⟨_, rfl⟩
            rw [hS] at SL SB AO H3
            clear hS
            rw [show 128 * 3 = 384 from rfl] at H3
            go_wp2_with fail
            go_loopw [96] (fun u wr => ∃ k : Nat, k ≤ 256 ∧ u = .int .i64 (k : Int) ∧ Hid (Hp W wr (rowA 2 .i64 go 640 (mixTo (acc L (4)) (acc L 3) 640 (384 + k)) :: rowA 21 .i32 gs 256 Sx :: synA s c lo br v :: slA 2 .i64 v tail :: lapA lo c 512 1 28 :: lapA br c 128 4 27 :: circA c :: l))) (fun u _ => 256 - (intOf u).toNat)
            case atStart => exact ⟨0, by omega, rfl, H3⟩
            case round =>
              clear H3
              obtain ⟨k, hk, rfl, H⟩ := hrel
              by_cases hlt : k < 256
              · have ik : (k : Int) < 256 := by omega
                have sc := H.out.up1.row.cell (i := k) (by rw [SL.out]; exact hlt)
                have sg : Sx[k]'(by rw [SL.out]; exact hlt) = Sx.getD k 0 := by rw [List.getD_eq_getElem?_getD, List.getElem?_eq_getElem (by rw [SL.out]; exact hlt), Option.getD_some]
                rw [sg] at sc
                have sb := SB.out k
                have ao := AO.out k hlt
                obtain ⟨i1, hi1⟩ : ∃ i1 : Nat, i1 = 384 + k := ⟨_, rfl⟩
                rw [← hi1] at H ao
                have ab := AB.out i1
                have fr := H.out.row.free i1
                have fc := H.out.row.cell (i := i1) (by rw [mix_len]; omega)
                rw [mix_at, if_neg (Nat.lt_irrefl _)] at fc
                have hs := H.out.set i1 (acc L (4) i1)
                rw [mix_set, ao] at hs
                have HS := Lib.hid hs
                obtain ⟨x, hx⟩ : ∃ x, Sx.getD k 0 = x := ⟨_, rfl⟩
                obtain ⟨y, hy⟩ : ∃ y, acc L 3 i1 = y := ⟨_, rfl⟩
                rw [hx] at sc sb HS
                rw [hy] at fc ab HS
                have e0 : IntKind.i64.wrap (3 * 128) = 384 := by decide
                have e00 : IntKind.i64.wrap 384 = 384 := by decide
                have e1 : IntKind.i64.wrap (384 + (k : Int)) = (i1 : Int) := by rw [wrapI64 (by omega) (by omega)]; omega
                have e2 : IntKind.i64.wrap (y + x) = y + x := wrapI64 (by omega) (by omega)
                have i2 : (i1 : Int) < 640 := by omega
                have i3 : i1 < 640 := by omega
                have HI := Lib.hid hi1
                clear hs hx hy sg ao hi1
                go_wp2_with fail
                go_roundw
                case rel => exact ⟨k + 1, by omega, by go_num, by rw [show 384 + (k + 1) = i1 + 1 by have := HI.out; omega]; exact HS⟩
                case measure => simp [intOf]; omega
              · obtain rfl : k = 256 := by omega
                have H4 : Hid (Hp W wr (rowA 2 .i64 go 640 (accv L (4)) :: synA s c lo br v :: slA 2 .i64 v tail :: lapA lo c 512 1 28 :: lapA br c 128 4 27 :: circA c :: l)) := Lib.hid (Hp.blkrow (H.out.up1.drop) (mix_last L 3))
                clear H SL SB AO AB
                go_wp2_with fail
                go_roundw
                case rel => exact ⟨4, by omega, by go_num, H4⟩
                case measure => simp [intOf]
    · obtain rfl : m = 4 := by omega
      go_wp2_with fail
      go_ret2
      exact ⟨_, rfl, H.out⟩
end Go.Proofs.Ytngldpeapcbbpaa.Lap

/-
  Overlap: a synth's samples, a clone, what is refused; the program's walks. No condition but those told.
-/
set_option linter.unusedVariables false
set_option linter.unusedSimpArgs false
namespace Go.Proofs.Ytngldpeapcbbpaa.Lap
open Go.RowKit Go.Proofs.Ytngldpeapcbbpaa Go.Proofs.Ytngldpeapcbbpaa.Bnd Go.Proofs.Ytngldpeapcbbpaa.Art Go.Proofs.YtngldpeapcbbpaaW.PrintWords

theorem mk16 (n : Nat) (hn : n ≤ 4096) (w : World) : (Instr.makeSlice 44 (.int .i64 n) (.int .i64 n)).run Try.prog w = .ok (.slice (some ⟨w.heap.size, 0, none⟩) n n) (w.alloc (.cells (madeCells #[.int .i16 0] n) 49)) :=
  run_make_row' 44 49 (.int .i16 0) 2 Try.underlying44 (by kernel_rfl) rfl .i64 .i64 n (by omega) (by omega) w
theorem Lines_nil (u : Value) (b : Bool) (w : World) : Calls Try.prog 29 #[.pointer none, u, .bool b] w fun e w' => e = .returned (.tuple #[.slice none 0 0, .int .i64 1]) ∧ w' = w := by
  go_enter Try.func29, Try.ntmps29
  go_wp2_with fail
  go_ret2
  exact ⟨rfl, rfl⟩
theorem Lines_bad (a : Nat) (A : Option Addr) (len cap : Nat) (hl : len ≠ 512) (b : Bool) (w : World) : Calls Try.prog 29 #[.pointer (some ⟨a, 0, none⟩), .slice A len cap, .bool b] w fun e w' => e = .returned (.tuple #[.slice none 0 0, .int .i64 1]) ∧ w' = w := by
  have h1 : ((len : Int) == 512) = false := by rw [beq_eq_false_iff_ne]; omega
  have h2 : ¬ (len : Int) = 512 := by omega
  have h3 : ¬ len = 512 := hl
  go_enter Try.func29, Try.ntmps29
  go_wp2_with fail
  go_ret2
  exact ⟨rfl, rfl⟩
theorem Samples_nil (u : Value) (b : Bool) (w : World) : Calls Try.prog 32 #[.pointer none, u, .bool b] w fun e w' => e = .returned (.tuple #[.slice none 0 0, .int .i64 1]) ∧ w' = w := by
  go_enter Try.func32, Try.ntmps32
  go_wp2_with fail
  go_ret2
  exact ⟨rfl, rfl⟩
theorem Samples_bad (a : Nat) (A : Option Addr) (len cap : Nat) (hl : len ≠ 512) (b : Bool) (w : World) : Calls Try.prog 32 #[.pointer (some ⟨a, 0, none⟩), .slice A len cap, .bool b] w fun e w' => e = .returned (.tuple #[.slice none 0 0, .int .i64 1]) ∧ w' = w := by
  have h1 : ((len : Int) == 512) = false := by rw [beq_eq_false_iff_ne]; omega
  have h2 : ¬ (len : Int) = 512 := by omega
  have h3 : ¬ len = 512 := hl
  go_enter Try.func32, Try.ntmps32
  go_wp2_with fail
  go_ret2
  exact ⟨rfl, rfl⟩
theorem Clone_nil (w : World) : Calls Try.prog 33 #[.pointer none] w fun e w' => e = .returned (.pointer none) ∧ w' = w := by
  go_enter Try.func33, Try.ntmps33
  go_wp2_with fail
  go_ret
  exact ⟨rfl, rfl⟩
theorem snd_len (b : Bool) (L : List Int) : (snd b L).length = 640 := by
  cases b
  · show (sndL L).length = 640
    unfold sndL
    rw [shapev_len, List.length_take, List.length_drop, backv_len]
    rfl
  · show (sndB L).length = 640
    simp [sndB]
theorem snd_b (b : Bool) {L : List Int} (h : ∀ j, -33554432 ≤ L.getD j 0 ∧ L.getD j 0 < 33554432) (j : Nat) : -4294967296 ≤ (snd b L).getD j 0 ∧ (snd b L).getD j 0 ≤ 4294967296 := by
  cases b
  · have := shape_b' (B := 1073741824) (by decide) (sub_bd (by decide) (back_b512 h) 192 640) j
    show -4294967296 ≤ (sndL L).getD j 0 ∧ (sndL L).getD j 0 ≤ 4294967296
    unfold sndL
    omega
  · show -4294967296 ≤ (sndB L).getD j 0 ∧ (sndB L).getD j 0 ≤ 4294967296
    unfold sndB
    rw [List.getD_eq_getElem?_getD, List.getElem?_map]
    by_cases hj : j < 640
    · rw [List.getElem?_range hj]
      have := acc_b h 4 j
      simp only [Option.map_some, Option.getD_some]
      omega
    · rw [List.getElem?_eq_none (by simp; omega)]
      simp
/-- A sound, with what was left. -/
def sumv (x left : List Int) : List Int := (List.range 640).map (sumAt x left)
theorem sumv_mix (x left : List Int) : mixTo (sumAt x left) (fun i => x.getD i 0) 640 128 = sumv x left := by
  apply List.ext_getElem
  · simp [mixTo, sumv]
  · intro j h1 h2
    rw [mix_at]
    simp only [sumv, List.getElem_map, List.getElem_range]
    split
    · rfl
    · unfold sumAt
      rw [if_neg ‹_›]
theorem sumv_drop (x left : List Int) (hx : x.length = 640) : (sumv x left).drop 512 = x.drop 512 := by
  apply List.ext_getElem
  · simp [sumv, hx]
  · intro j h1 h2
    rw [List.getElem_drop, List.getElem_drop]
    simp only [sumv, List.getElem_map, List.getElem_range]
    unfold sumAt
    rw [if_neg (by omega), List.getD_eq_getElem?_getD, List.getElem?_eq_getElem (by rw [List.length_drop] at h2; omega)]
    rfl
theorem sum_b {x left : List Int} (h1 : ∀ j, -4294967296 ≤ x.getD j 0 ∧ x.getD j 0 ≤ 4294967296) (h2 : ∀ j, -4294967296 ≤ left.getD j 0 ∧ left.getD j 0 ≤ 4294967296) (i : Nat) : -8589934592 ≤ sumAt x left i ∧ sumAt x left i ≤ 8589934592 := by
  unfold sumAt
  have := h1 i
  have := h2 i
  split <;> omega
theorem sound_h {W w : World} {l : List Ast} {s c lo br : Nat} {v : Value} {tail : List Int} (H : Hp W w (synA s c lo br v :: slA 2 .i64 v tail :: lapA lo c 512 1 28 :: lapA br c 128 4 27 :: circA c :: l)) {A : Option Addr} {cap : Nat} {L : List Int} (rd : Rd W l .i32 (.slice A 512 cap) L) (ul : L.length = 512) (ub : ∀ j, -33554432 ≤ L.getD j 0 ∧ L.getD j 0 < 33554432) (wl : within 33554432 L = true) (b : Bool) :
    Calls Try.prog 53 #[.pointer (some ⟨s, 0, none⟩), .slice A 512 cap, .bool b] w fun e w' => ∃ g, e = .returned (.tuple #[.slice (some ⟨g, 0, none⟩) 640 640, .int .i64 0]) ∧ Hp W w' (rowA 2 .i64 g 640 (snd b L) :: synA s c lo br v :: slA 2 .i64 v tail :: lapA lo c 512 1 28 :: lapA br c 128 4 27 :: circA c :: l) := by
  cases b
  · exact sound_long H rd ul ub wl
  · exact sound_brief H rd ul ub wl
attribute [local irreducible] cosv wgt qt QT risev turnv backv shapev accv prt snd
set_option maxHeartbeats 4000000 in
set_option maxRecDepth 100000 in
theorem Samples_h {W w : World} {l : List Ast} {s c lo br : Nat} {v : Value} {tail : List Int} (H : Hp W w (synA s c lo br v :: slA 2 .i64 v tail :: lapA lo c 512 1 28 :: lapA br c 128 4 27 :: circA c :: l)) (tl : tail.length = 128) (tb : ∀ j, -4294967296 ≤ tail.getD j 0 ∧ tail.getD j 0 ≤ 4294967296) {A : Option Addr} {cap : Nat} {L : List Int} (rd : Rd W l .i32 (.slice A 512 cap) L) (ul : L.length = 512) (ub : ∀ j, -33554432 ≤ L.getD j 0 ∧ L.getD j 0 < 33554432) (wl : within 33554432 L = true) (b : Bool) :
    Calls Try.prog 32 #[.pointer (some ⟨s, 0, none⟩), .slice A 512 cap, .bool b] w fun e w' => ∃ g v', e = .returned (.tuple #[.slice (some ⟨g, 0, none⟩) 512 512, .int .i64 0]) ∧ Hp W w' (rowA 49 .i16 g 512 (outv (snd b L) tail) :: synA s c lo br v' :: slA 2 .i64 v' ((snd b L).drop 512) :: lapA lo c 512 1 28 :: lapA br c 128 4 27 :: circA c :: l) := by
  obtain ⟨Av, cv, rfl, _⟩ := H.up1.sl.form
  have C := Lib.hid (sound_h H rd ul ub wl b)
  have XB := Lib.hid (snd_b b ub)
  have XL := Lib.hid (snd_len b L)
  obtain ⟨X, hX⟩ : ∃ X, snd b L = X := ⟨_, rfl⟩
  rw [hX] at C XB XL ⊢
  have TL := Lib.hid tl
  have TB := Lib.hid tb
  obtain ⟨fo, hfo⟩ : ∃ fo : Nat → Int, fo = fun i => clampv (-32768) 32767 (rdv 16 (sumAt X tail i)) := ⟨_, rfl⟩
  rw [show outv X tail = fillTo fo 512 512 by rw [fillTo_all, hfo]; rfl]
  have FO : Hid (∀ i, fo i = clampv (-32768) 32767 (rdv 16 (sumAt X tail i))) := Lib.hid (by rw [hfo]; intro i; rfl)
  obtain ⟨D, hD⟩ : ∃ D, X.drop 512 = D := ⟨_, rfl⟩
  rw [hD]
  have DL : Hid (D.length = 128) := Lib.hid (by rw [← hD, List.length_drop, XL.out])
  have HDD := Lib.hid hD
  clear H rd ul ub wl tl tb hX hfo hD
  go_enter Try.func32, Try.ntmps32
  go_wp2_with fail
  refine C.out.mono ?_
  rintro e1 w1 ⟨go, rfl, h1⟩
  have e0 : X = mixTo (sumAt X tail) (fun i => X.getD i 0) 640 0 := by
    rw [mix_none]
    exact (fill_id X 640 XL.out).symm.trans (fillTo_all _ _)
  have H1 : Hid (Hp W w1 (rowA 2 .i64 go 640 (mixTo (sumAt X tail) (fun i => X.getD i 0) 640 0) :: synA s c lo br (.slice Av tail.length cv) :: slA 2 .i64 (.slice Av tail.length cv) tail :: lapA lo c 512 1 28 :: lapA br c 128 4 27 :: circA c :: l)) := Lib.hid (Hp.blkrow h1 e0)
  have c3 := H1.out.up1.blk.cell (i := 3) rfl
  have tl := TL.out
  clear C h1 e0
  go_wp2_with fail
  clear c3
  go_loopw [36] (fun u wr => ∃ k : Nat, k ≤ 128 ∧ u = .int .i64 (k : Int) ∧ Hid (Hp W wr (rowA 2 .i64 go 640 (mixTo (sumAt X tail) (fun i => X.getD i 0) 640 k) :: synA s c lo br (.slice Av tail.length cv) :: slA 2 .i64 (.slice Av tail.length cv) tail :: lapA lo c 512 1 28 :: lapA br c 128 4 27 :: circA c :: l))) (fun u _ => 128 - (intOf u).toNat)
  case atStart => exact ⟨0, by omega, rfl, H1⟩
  case round =>
    clear H1
    obtain ⟨k, hk, rfl, H⟩ := hrel
    by_cases hlt : k < 128
    · have ik : (k : Int) < (tail.length : Int) := by omega
      obtain ⟨ad, rfl, hc⟩ := Src.at (Src.of_sl H.out.up2.sl) (j := k) (by omega)
      have tb := TB.out k
      have xb := XB.out k
      have fr := H.out.row.free k
      have fc := H.out.row.cell (i := k) (by rw [mix_len]; omega)
      rw [mix_at, if_neg (Nat.lt_irrefl _)] at fc
      have hs := H.out.set k (sumAt X tail k)
      have es : sumAt X tail k = X.getD k 0 + tail.getD k 0 := by unfold sumAt; rw [if_pos hlt]
      rw [mix_set, es] at hs
      have HS := Lib.hid hs
      obtain ⟨x, hx⟩ : ∃ x, X.getD k 0 = x := ⟨_, rfl⟩
      obtain ⟨y, hy⟩ : ∃ y, tail.getD k 0 = y := ⟨_, rfl⟩
      rw [hx] at fc xb HS
      rw [hy] at hc tb HS
      have e2 : IntKind.i64.wrap (x + y) = x + y := wrapI64 (by omega) (by omega)
      have ik2 : (k : Int) < 640 := by omega
      have ik3 : k < 640 := by omega
      clear hs hx hy es
      go_wp2_with fail
      go_roundw
      case rel => exact ⟨k + 1, by omega, by go_num, HS⟩
      case measure => simp [intOf]; omega
    · obtain rfl : k = 128 := by omega
      have ik : ¬ ((128 : Nat) : Int) < (tail.length : Int) := by omega
      rw [sumv_mix] at H
      have SB := Lib.hid (sum_b XB.out TB.out)
      have SL : Hid ((sumv X tail).length = 640) := Lib.hid (by simp [sumv])
      have SA : Hid (∀ i (h : i < (sumv X tail).length), (sumv X tail)[i] = sumAt X tail i) := Lib.hid (fun i h => by simp [sumv])
      have SD := Lib.hid (sumv_drop X tail XL.out)
      obtain ⟨Sx, hS⟩ : ∃ Sx, sumv X tail = Sx := ⟨_, rfl⟩
      rw [hS] at SL SD H
      have SA' : Hid (∀ i (h : i < Sx.length), Sx[i] = sumAt X tail i) := Lib.hid (by rw [← hS]; exact SA.out)
      have hm := mk16 512 (by decide)
      rw [show ((512 : Nat) : Int) = 512 from rfl] at hm
      obtain ⟨gq, hgq⟩ : ∃ gq, wr.heap.size = gq := ⟨_, rfl⟩
      have H2 : Hid (Hp W (wr.alloc (.cells (madeCells #[.int .i16 0] 512) 49)) (rowA 49 .i16 gq 512 (fillTo fo 512 0) :: rowA 2 .i64 go 640 Sx :: synA s c lo br (.slice Av tail.length cv) :: slA 2 .i64 (.slice Av tail.length cv) tail :: lapA lo c 512 1 28 :: lapA br c 128 4 27 :: circA c :: l)) := Lib.hid (by rw [fillTo_zero, ← hgq]; exact H.out.new_row 49 .i16 512 0 (by decide))
      rw [HDD.out] at SD
      clear H hS SA XB
      go_wp2_with fail
      try rw [hgq]
      clear hgq
      go_loopw [52] (fun u wr => ∃ k : Nat, k ≤ 512 ∧ u = .int .i64 (k : Int) ∧ Hid (Hp W wr (rowA 49 .i16 gq 512 (fillTo fo 512 k) :: rowA 2 .i64 go 640 Sx :: synA s c lo br (.slice Av tail.length cv) :: slA 2 .i64 (.slice Av tail.length cv) tail :: lapA lo c 512 1 28 :: lapA br c 128 4 27 :: circA c :: l))) (fun u _ => 512 - (intOf u).toNat)
      case atStart => exact ⟨0, by omega, rfl, H2⟩
      case round =>
        clear H2
        obtain ⟨k, hk, rfl, H⟩ := hrel
        by_cases hlt : k < 512
        · have ik : (k : Int) < 512 := by omega
          have sc := H.out.up1.row.cell (i := k) (by rw [SL.out]; omega)
          rw [SA'.out] at sc
          have sb := SB.out k
          have fk := FO.out k
          obtain ⟨x, hx⟩ : ∃ x, sumAt X tail k = x := ⟨_, rfl⟩
          rw [hx] at sc sb fk
          have rb : -9223372036854775808 ≤ rdv 16 x ∧ rdv 16 x < 9223372036854775808 := by unfold rdv; omega
          have cb := clamp_bd (a := -32768) (b := 32767) (by decide) (rdv 16 x)
          have w1 : IntKind.i16.wrap (clampv (-32768) 32767 (rdv 16 x)) = clampv (-32768) 32767 (rdv 16 x) := by
            have e : ∀ y : Int, -32768 ≤ y → y ≤ 32767 → IntKind.i16.wrap y = y := fun y h1 h2 => by
              unfold IntKind.wrap
              simp only [IntKind.bits, IntKind.signed]
              simp
              omega
            exact e _ cb.1 cb.2
          rw [← fk] at w1
          have FK := Lib.hid fk
          clear hx fk cb
          go_wp2_with fail
          refine (Round4 x (by omega) (by omega) _).mono ?_
          rintro e2 w2 ⟨rfl, q, rfl⟩
          go_wp2_with fail
          refine (Sat16 (rdv 16 x) rb.1 rb.2 _).mono ?_
          rw [← FK.out]
          rintro e3 w3 ⟨rfl, he⟩
          subst w3
          have hs := (H.out.drewN q).set k (fo k)
          rw [fillTo_set] at hs
          have HS := Lib.hid hs
          have fr := (H.out.drewN q).row.free k
          have fc := (H.out.drewN q).row.cell (i := k) (by rw [fillTo_len]; omega)
          rw [fillTo_at] at fc
          clear hs rb
          go_wp2_with fail
          go_roundw
          case rel => exact ⟨k + 1, by omega, by go_num, HS⟩
          case measure => simp [intOf]; omega
        · obtain rfl : k = 512 := by omega
          have S0 := Lib.hid (Sl_empty wr 2 .i64)
          have S1 : Hid (Src (wr.alloc (.cells #[] 2)) .i64 (.slice (some ⟨go, 512, none⟩) 128 (640 - 512)) (Sx.drop 512)) := Lib.hid (Src_drop (H.out.up1.row.alloc _) 512 _ (by rw [SL.out]))
          rw [SD.out] at S1
          have DC : Hid (D.length ≤ 2000) := Lib.hid (by rw [DL.out]; decide)
          go_wp2_with (at_builtin; refine wpList_add (.tmp 67) (.tmp 69) 31 2 .i64 0 8 rfl rfl Try.underlying31 info_i64 _ _ [] D rfl rfl S0.out S1.out (by have := DC.out; simp; omega) (by have := DC.out; simp; omega) ?_
                       intro v2 w2 hp
                       have bf := added_fresh hp
                       have sl1 := hp.sl
                       rw [List.nil_append] at sl1
                       have h1 := H.out.add_sl bf.1 sl1 bf.2
                       obtain ⟨A2, c2, rfl, _⟩ := h1.sl.form
                       have fr2 := h1.up3.blk.free 3
                       have fc2 := h1.up3.blk.cell (i := 3) rfl
                       have H2 := Lib.hid (h1.up3.bset 3 (.slice A2 D.length c2))
                       clear hp bf sl1 h1 S0 S1 H)
          have H3 : Hid (Hp W (w2.setCell ⟨s, 3, none⟩ (.slice A2 D.length c2)) (rowA 49 .i16 gq 512 (fillTo fo 512 512) :: synA s c lo br (.slice A2 D.length c2) :: slA 2 .i64 (.slice A2 D.length c2) D :: lapA lo c 512 1 28 :: lapA br c 128 4 27 :: circA c :: l)) := Lib.hid ((H2.out.up3.drop.up3.drop.up2))
          clear H2
          go_ret2
          exact ⟨_, _, rfl, H3.out⟩
end Go.Proofs.Ytngldpeapcbbpaa.Lap

/-
  The document's slopes; walks. No condition but those told.
-/
set_option linter.unusedVariables false
set_option linter.unusedSimpArgs false
namespace Go.Proofs.Ytngldpeapcbbpaa.Lap
open Go.RowKit Go.Proofs.Ytngldpeapcbbpaa Go.Proofs.Ytngldpeapcbbpaa.Bnd Go.Proofs.Ytngldpeapcbbpaa.Art Go.Proofs.YtngldpeapcbbpaaW.PrintWords

attribute [local irreducible] cosv wgt qt QT
theorem rRise {w : World} {A : Option Addr} {cap : Nat} (src : Src w .i64 (.slice A 1025 cap) QT) (x : Int) : Calls Try.prog 69 #[.slice A 1025 cap, .int .i64 x] w fun e w' => e = .returned (.int .i64 (risev x)) ∧ w' = w := by
  unfold risev
  by_cases h0 : x < 0
  · rw [if_pos h0]
    go_enter Try.func69, Try.ntmps69
    go_wp2_with fail
    go_ret
    exact ⟨rfl, rfl⟩
  rw [if_neg h0]
  by_cases h1 : 128 ≤ x
  · rw [if_pos h1]
    go_enter Try.func69, Try.ntmps69
    go_wp2_with fail
    go_ret
    exact ⟨rfl, rfl⟩
  rw [if_neg h1]
  have SR := Lib.hid src
  clear src
  go_enter Try.func69, Try.ntmps69
  go_wp2_with fail
  refine (rCos SR.out (1024 - 4 * (2 * x + 1)) (by omega)).mono ?_
  rintro e1 w1 ⟨rfl, he⟩
  subst w1
  go_wp2_with fail
  go_ret
  exact ⟨rfl, rfl⟩
attribute [local irreducible] risev
set_option maxHeartbeats 2000000 in
set_option maxRecDepth 100000 in
theorem rShape {w : World} {A0 : Option Addr} {cap0 : Nat} (sq : Src w .i64 (.slice A0 1025 cap0) QT) {A : Option Addr} {n cap : Nat} {x : List Int} (src : Src w .i64 (.slice A n cap) x) (hl : x.length = n) (n1 : 1 ≤ n) (n2 : n ≤ 4096) (bd : ∀ j, -2147483647 ≤ x.getD j 0 ∧ x.getD j 0 ≤ 2147483647) :
    Calls Try.prog 52 #[.slice A0 1025 cap0, .slice A n cap] w fun e w' => ∃ g, e = .returned (.slice (some ⟨g, 0, none⟩) n n) ∧ w.heap.size ≤ g ∧ RowI w' 2 .i64 g n (shapev x) ∧ Below w.heap.size w w' := by
  obtain ⟨ad, rfl, _⟩ := Src.at src (j := 0) (by omega)
  have HA : Hid (∀ wr, Hp w wr [] → ∀ j, j < n → wr.cell? (ad.add j) = some (.int .i64 (x.getD j 0))) := Lib.hid fun wr H j hj => by
    obtain ⟨_, e, hc⟩ := Src.at (Src.below src H.b) (j := j) (by omega)
    cases e
    exact hc
  have SQ := Lib.hid sq
  have BD := Lib.hid bd
  obtain ⟨f, hf⟩ : ∃ f : Nat → Int, f = shapeAt x := ⟨_, rfl⟩
  have ef : shapev x = fillTo f n n := by rw [hf, fillTo_all]; unfold shapev; rw [hl]
  rw [ef]
  have HF : Hid (∀ i, f i = rdv 16777216 (x.getD i 0 * slope n i)) := Lib.hid fun i => by rw [hf]; unfold shapeAt; rw [hl]
  clear src hl bd sq hf ef
  have hm := mk64 n (by omega)
  have H0 : Hid (Hp w (w.alloc (.cells (madeCells #[.int .i64 0] n) 2)) [rowA 2 .i64 w.heap.size n (fillTo f n 0)]) := Lib.hid (by
    rw [fillTo_zero]
    exact (Hp.nil w).new_row 2 .i64 n 0 (by unfold maxLen; omega))
  go_enter Try.func52, Try.ntmps52
  go_wp2_with fail
  go_loopw [7] (fun u wr => ∃ k : Nat, k ≤ n ∧ u = .int .i64 (k : Int) ∧ Hid (Hp w wr [rowA 2 .i64 w.heap.size n (fillTo f n k)])) (fun u _ => n - (intOf u).toNat)
  case atStart => exact ⟨0, by omega, rfl, H0⟩
  case round =>
    clear H0
    obtain ⟨k, hk, rfl, H⟩ := hrel
    by_cases hlt : k < n
    · have ik : (k : Int) < (n : Int) := by omega
      have x1 := HA.out wr (H.out.pk []) k hlt
      have b1 := BD.out k
      have fk := HF.out k
      obtain ⟨r1, hr1⟩ : ∃ r, risev (k : Int) = r := ⟨_, rfl⟩
      obtain ⟨r2, hr2⟩ : ∃ r, risev ((n : Int) - 1 - k) = r := ⟨_, rfl⟩
      have rb1 := rise_bd k
      have rb2 := rise_bd ((n : Int) - 1 - k)
      unfold slope at fk
      rw [hr1, hr2] at fk
      rw [hr1] at rb1
      rw [hr2] at rb2
      have R1 := Lib.hid hr1
      have R2 := Lib.hid hr2
      obtain ⟨y, hy⟩ : ∃ y, x.getD k 0 = y := ⟨_, rfl⟩
      rw [hy] at x1 b1 fk
      have FK := Lib.hid fk
      have SQ' := Lib.hid (Src.below SQ.out H.out.b)
      have hs := H.out.set k (f k)
      rw [fillTo_set] at hs
      have HS := Lib.hid hs
      have fr := H.out.row.free k
      have fc := H.out.row.cell (i := k) (by rw [fillTo_len]; omega)
      rw [fillTo_at] at fc
      clear hr1 hr2 hy fk hs
      by_cases hr : r2 < r1
      all_goals
        go_wp2_with fail
        refine (rRise SQ'.out _).mono ?_
        rw [R1.out]
        rintro e1 w1 ⟨rfl, he⟩
        subst w1
        go_wp2_with fail
        refine (rRise SQ'.out _).mono ?_
        rw [R2.out]
        rintro e1 w1 ⟨rfl, he⟩
        subst w1
      · have pb := mul_bd (x := y) (y := r2) (B := 2147483647) (C := 16777216) (by decide) (by decide) b1 rb2
        obtain ⟨P, hP⟩ : ∃ P, y * r2 = P := ⟨_, rfl⟩
        have fk := FK.out
        rw [if_pos hr, hP] at fk
        rw [hP] at pb
        have p1 : wrap64 (y * r2) = P := by rw [hP]; unfold wrap64; omega
        have P1 := Lib.hid p1
        have FK2 := Lib.hid fk
        clear p1 fk
        go_wp2_with fail
        refine (rRound_calls P 24 (by omega) (by decide) _).mono ?_
        rw [rnd_rdv24, ← FK2.out]
        rintro e1 w1 ⟨rfl, he⟩
        subst w1
        go_wp2_with fail
        go_roundw
        case rel => exact ⟨k + 1, by omega, by go_num, HS⟩
        case measure => simp [intOf]; omega
      · have pb := mul_bd (x := y) (y := r1) (B := 2147483647) (C := 16777216) (by decide) (by decide) b1 rb1
        obtain ⟨P, hP⟩ : ∃ P, y * r1 = P := ⟨_, rfl⟩
        have fk := FK.out
        rw [if_neg (by omega), hP] at fk
        rw [hP] at pb
        have p1 : wrap64 (y * r1) = P := by rw [hP]; unfold wrap64; omega
        have P1 := Lib.hid p1
        have FK2 := Lib.hid fk
        clear p1 fk
        go_wp2_with fail
        refine (rRound_calls P 24 (by omega) (by decide) _).mono ?_
        rw [rnd_rdv24, ← FK2.out]
        rintro e1 w1 ⟨rfl, he⟩
        subst w1
        go_wp2_with fail
        go_roundw
        case rel => exact ⟨k + 1, by omega, by go_num, HS⟩
        case measure => simp [intOf]; omega
    · obtain rfl : k = n := by omega
      go_wp2_with fail
      go_ret
      exact ⟨_, rfl, Nat.le_refl _, H.out.row, H.out.b⟩
end Go.Proofs.Ytngldpeapcbbpaa.Lap

/-
  The document's lines of a frame; walks. No condition but those told.
-/
set_option linter.unusedVariables false
set_option linter.unusedSimpArgs false
namespace Go.Proofs.Ytngldpeapcbbpaa.Lap
open Go.RowKit Go.Proofs.Ytngldpeapcbbpaa Go.Proofs.Ytngldpeapcbbpaa.Bnd Go.Proofs.Ytngldpeapcbbpaa.Art Go.Proofs.YtngldpeapcbbpaaW.PrintWords

attribute [local irreducible] cosv wgt qt QT risev turnv
theorem longX_pf {X : List Int} (xl : X.length = 640) (xb : ∀ j, -524288 ≤ X.getD j 0 ∧ X.getD j 0 ≤ 524288) : longX X = pf (fun i => (shapev X).getD (i - 192) 0) (fun j => decide (192 ≤ j ∧ j < 192 + 640)) 1024 := by
  apply List.ext_getElem
  · rw [longX_len xl, pf_len]
  · intro i h1 h2
    rw [longX_len xl] at h1
    have e := longX_at xl i h1
    rw [List.getD_eq_getElem?_getD, List.getElem?_eq_getElem (by rw [longX_len xl]; exact h1), Option.getD_some] at e
    rw [e, pf_get]
    by_cases h : 192 ≤ i ∧ i < 832
    · rw [if_pos h, if_pos (by simp; omega), shapev_at _ _ (by omega), xl]
    · rw [if_neg h, if_neg (by simp; omega)]
theorem brfL_pf (X : List Int) : brfL X = pf (fun i => (fwdv 128 4 134217728 (shapev ((X.drop (128 * (i % 4))).take 256))).getD (i / 4) 0) (fun j => decide (j % 4 < 4)) 512 := by
  rw [pf_all _ _ _ (fun j _ => by simp; omega)]
  rfl
theorem src_sub {w : World} {k : IntKind} {A : Addr} {n c : Nat} {xs : List Int} (h : Src w k (.slice (some A) n c) xs) (hl : xs.length = n) (a m cc : Nat) (ham : a + m ≤ n) (h0 : 0 < m) : Src w k (.slice (some (A.add a)) m cc) ((xs.drop a).take m) := by
  have ll : ((xs.drop a).take m).length = m := by rw [List.length_take, List.length_drop]; omega
  refine ⟨some (A.add a), cc, by rw [ll], fun _ => ⟨_, rfl, fun j hj => ?_⟩⟩
  rw [ll] at hj
  obtain ⟨ad, e, hc⟩ := Src.at h (j := a + j) (by omega)
  cases e
  rw [Addr.add_add, hc, List.getElem_take, List.getElem_drop, List.getD_eq_getElem?_getD, List.getElem?_eq_getElem (by omega)]
  rfl
attribute [local irreducible] longX brfL fwdv shapev
set_option maxHeartbeats 2000000 in
set_option maxRecDepth 100000 in
theorem rLinesL {w : World} {A0 : Option Addr} {cap0 : Nat} (sq : Src w .i64 (.slice A0 1025 cap0) QT) {A : Option Addr} {cap : Nat} {X : List Int} (src : Src w .i64 (.slice A 640 cap) X) (xl : X.length = 640) (xb : ∀ j, -524288 ≤ X.getD j 0 ∧ X.getD j 0 ≤ 524288) :
    Calls Try.prog 30 #[.slice A0 1025 cap0, .slice A 640 cap, .bool false] w fun e w' => ∃ g, e = .returned (.slice (some ⟨g, 0, none⟩) 512 512) ∧ w.heap.size ≤ g ∧ RowI w' 2 .i64 g 512 (ovl false X) ∧ Below w.heap.size w w' := by
  rw [show ovl false X = fwdv 512 1 268435456 (longX X) from rfl]
  have WB := Lib.hid (longX_b xl xb)
  have WL := Lib.hid (longX_len xl)
  obtain ⟨f, hf⟩ : ∃ f : Nat → Int, f = fun i => (shapev X).getD (i - 192) 0 := ⟨_, rfl⟩
  obtain ⟨p, hp⟩ : ∃ p : Nat → Nat → Bool, p = fun k j => decide (192 ≤ j ∧ j < 192 + k) := ⟨_, rfl⟩
  have ef : longX X = pf f (p 640) 1024 := by rw [hf, hp]; exact longX_pf xl xb
  rw [ef] at WB WL
  rw [ef]
  have SQ := Lib.hid sq
  have SH := Lib.hid (fun w' (b : Below w.heap.size w w') => rShape (w := w') (Src.below sq b) (Src.below src b) xl (by decide) (by decide) (fun j => by have := xb j; omega))
  have SL : Hid ((shapev X).length = 640) := Lib.hid (by rw [shapev_len, xl])
  obtain ⟨S, hS⟩ : ∃ S, shapev X = S := ⟨_, rfl⟩
  rw [hS] at SH SL
  have HF : Hid (∀ k, k < 640 → f (192 + k) = S.getD k 0) := Lib.hid (fun k hk => by rw [hf, ← hS, show k = 192 + k - 192 by omega]; simp)
  have HP := Lib.hid hp
  clear hf hp ef src xl xb sq hS
  have hm := mk64 1024 (by decide)
  rw [show ((1024 : Nat) : Int) = 1024 from rfl] at hm
  have H0 : Hid (Hp w (w.alloc (.cells (madeCells #[.int .i64 0] 1024) 2)) [rowA 2 .i64 w.heap.size 1024 (pf f (p 0) 1024)]) := Lib.hid (by
    rw [pf_none _ _ _ (fun j hj => by rw [HP.out]; simp; try omega)]
    exact (Hp.nil w).new_row 2 .i64 1024 0 (by decide))
  go_enter Try.func30, Try.ntmps30
  go_wp2_with fail
  refine (SH.out _ (H0.out.b)).mono ?_
  rintro e1 w1 ⟨gs, rfl, _, hr, b1⟩
  have H1 := Lib.hid ((H0.out.add_row b1 hr (by omega)).up1)
  clear hr b1 H0 SH
  go_wp2_with fail
  go_loopw [9] (fun u wr => ∃ k : Nat, k ≤ 640 ∧ u = .int .i64 (k : Int) ∧ Hid (Hp w wr [rowA 2 .i64 w.heap.size 1024 (pf f (p k) 1024), rowA 2 .i64 gs 640 S])) (fun u _ => 640 - (intOf u).toNat)
  case atStart => exact ⟨0, by omega, rfl, H1⟩
  case round =>
    clear H1
    obtain ⟨k, hk, rfl, H⟩ := hrel
    by_cases hlt : k < 640
    · have ik : (k : Int) < 640 := by omega
      have sc := H.out.up1.row.cell (i := k) (by rw [SL.out]; exact hlt)
      have hv := HF.out k hlt
      rw [List.getD_eq_getElem?_getD, List.getElem?_eq_getElem (by rw [SL.out]; exact hlt), Option.getD_some] at hv
      rw [← hv] at sc
      obtain ⟨i1, hi1⟩ : ∃ i1 : Nat, i1 = 192 + k := ⟨_, rfl⟩
      have fr := H.out.row.free i1
      have fc := H.out.row.cell (i := i1) (by rw [pf_len]; omega)
      rw [pf_get] at fc
      have hs := H.out.set i1 (f i1)
      rw [pf_set f (p k) (p (k + 1)) 1024 i1 (fun j _ => by rw [HP.out, hi1]; rw [Bool.eq_iff_iff]; simp; omega)] at hs
      rw [← hi1] at sc
      have HS := Lib.hid hs
      have e1 : IntKind.i64.wrap (192 + (k : Int)) = (i1 : Int) := by rw [wrapI64 (by omega) (by omega)]; omega
      have i2 : (i1 : Int) < 1024 := by omega
      have i3 : i1 < 1024 := by omega
      obtain ⟨v0, hv0⟩ : ∃ v0, (if p k i1 = true then f i1 else 0) = v0 := ⟨_, rfl⟩
      rw [hv0] at fc
      clear hv0 hs hv
      have HI := Lib.hid hi1
      clear hi1
      go_wp2_with fail
      go_roundw
      case rel => exact ⟨k + 1, by omega, by go_num, HS⟩
      case measure => simp [intOf]; omega
    · obtain rfl : k = 640 := by omega
      have sr := Src.of_sl (Sl.row H.out.row)
      rw [pf_len] at sr
      have C := Lib.hid (rForward512 (Src.below SQ.out H.out.b) sr (by rw [pf_len]) (fun j => by have := WB.out j; omega))
      clear sr
      go_wp2_with fail
      refine C.out.mono ?_
      rintro e2 w2 ⟨g2, rfl, hg2, hr2, b2⟩
      have H2 := Lib.hid (H.out.add_row b2 hr2 hg2)
      clear hr2 b2 hg2
      go_wp2_with fail
      go_ret
      exact ⟨g2, rfl, H2.out.row_ge.1, H2.out.row, H2.out.b⟩
set_option maxHeartbeats 2000000 in
set_option maxRecDepth 100000 in
theorem rLinesB {w : World} {A0 : Option Addr} {cap0 : Nat} (sq : Src w .i64 (.slice A0 1025 cap0) QT) {A : Option Addr} {cap : Nat} {X : List Int} (src : Src w .i64 (.slice A 640 cap) X) (xl : X.length = 640) (cl : 640 ≤ cap) (xb : ∀ j, -524288 ≤ X.getD j 0 ∧ X.getD j 0 ≤ 524288) :
    Calls Try.prog 30 #[.slice A0 1025 cap0, .slice A 640 cap, .bool true] w fun e w' => ∃ g, e = .returned (.slice (some ⟨g, 0, none⟩) 512 512) ∧ w.heap.size ≤ g ∧ RowI w' 2 .i64 g 512 (ovl true X) ∧ Below w.heap.size w w' := by
  rw [show ovl true X = brfL X from rfl, brfL_pf]
  obtain ⟨ad, rfl, _⟩ := Src.at src (j := 0) (by omega)
  obtain ⟨f, hf⟩ : ∃ f : Nat → Int, f = fun i => (fwdv 128 4 134217728 (shapev ((X.drop (128 * (i % 4))).take 256))).getD (i / 4) 0 := ⟨_, rfl⟩
  rw [← hf]
  have HF := Lib.hid hf
  have SQ := Lib.hid sq
  have SX : Hid (∀ w' (b : Below w.heap.size w w') (m : Nat) (c : Nat), m < 4 → Src w' .i64 (.slice (some (ad.add (128 * m))) 256 c) ((X.drop (128 * m)).take 256)) := Lib.hid (fun w' b m c hm => src_sub (Src.below src b) xl _ _ _ (by omega) (by decide))
  have XL : Hid (∀ m, m < 4 → ((X.drop (128 * m)).take 256).length = 256) := Lib.hid (fun m hm => by rw [List.length_take, List.length_drop]; omega)
  have XB : Hid (∀ m j, -524288 ≤ ((X.drop (128 * m)).take 256).getD j 0 ∧ ((X.drop (128 * m)).take 256).getD j 0 ≤ 524288) := Lib.hid (fun m => sub_bd (by decide) xb _ _)
  clear hf src xl xb sq
  have hm := mk64 512 (by decide)
  rw [show ((512 : Nat) : Int) = 512 from rfl] at hm
  have H0 : Hid (Hp w (w.alloc (.cells (madeCells #[.int .i64 0] 512) 2)) [rowA 2 .i64 w.heap.size 512 (pf f (fun j => decide (j % 4 < 0)) 512)]) := Lib.hid (by
    rw [pf_none _ _ _ (fun j hj => by simp)]
    exact (Hp.nil w).new_row 2 .i64 512 0 (by decide))
  go_enter Try.func30, Try.ntmps30
  go_wp2_with fail
  go_loopw [11] (fun u wr => ∃ m : Nat, m ≤ 4 ∧ u = .int .i64 (m : Int) ∧ Hid (Hp w wr [rowA 2 .i64 w.heap.size 512 (pf f (fun j => decide (j % 4 < m)) 512)])) (fun u _ => 4 - (intOf u).toNat)
  case atStart => exact ⟨0, by omega, rfl, H0⟩
  case round =>
    clear H0
    obtain ⟨m, hm4, rfl, H⟩ := hrel
    by_cases mlt : m < 4
    · rcases (show m = 0 ∨ m = 1 ∨ m = 2 ∨ m = 3 by omega) with rfl | rfl | rfl | rfl
      · have z5 : 256 ≤ cap := by omega
        have z6 : ((256 : Nat) : Int) ≤ (cap : Int) := by omega
        have z7 : ¬ cap = 0 := by omega
        go_wp2_with fail
        have lx := XL.out 0 (by decide)
        have bx := XB.out 0
        have sx := SX.out wr H.out.b 0 (cap - 0) (by decide)
        rw [show 128 * 0 = 0 from rfl] at lx bx sx
        first
        | refine (rShape (Src.below SQ.out H.out.b) sx lx (by decide) (by decide) (fun j => by have := bx j; omega)).mono ?_
        | trace_state
        rintro e1 w1 ⟨gs, rfl, hgs, hr, b1⟩
        have H1 := Lib.hid (H.out.add_row b1 hr hgs)
        have sl : (shapev ((X.drop 0).take 256)).length = 256 := by rw [shapev_len, lx]
        have sb := shape_b bx
        clear hr b1 hgs H
        go_wp2_with fail
        have sr := Src.of_sl (Sl.row H1.out.row)
        rw [sl] at sr
        refine (rForward128 (Src.below SQ.out H1.out.b) sr sl (fun j => by have := sb j; omega)).mono ?_
        rintro e2 w2 ⟨gl, rfl, hgl, hr2, b2⟩
        have H2 := Lib.hid ((H1.out.add_row b2 hr2 hgl).pk [2, 0])
        clear hr2 b2 hgl H1 sr sb sl lx bx sx
        have FL : Hid ((fwdv 128 4 134217728 (shapev ((X.drop 0).take 256))).length = 128) := Lib.hid (fwdv_len _ _ _ _)
        have FF : Hid (∀ k, k < 128 → f (4 * k + 0) = (fwdv 128 4 134217728 (shapev ((X.drop 0).take 256))).getD k 0) := Lib.hid (fun k hk => by
          rw [HF.out]
          show (fwdv 128 4 134217728 (shapev ((X.drop (128 * ((4 * k + 0) % 4))).take 256))).getD ((4 * k + 0) / 4) 0 = _
          rw [show (4 * k + 0) % 4 = 0 by omega, show (4 * k + 0) / 4 = k by omega])
        obtain ⟨T, hT⟩ : ∃ T, fwdv 128 4 134217728 (shapev ((X.drop 0).take 256)) = T := ⟨_, rfl⟩
        rw [hT] at H2 FL FF
        clear hT
        obtain ⟨p, hp⟩ : ∃ p : Nat → Nat → Bool, p = fun k j => decide (j % 4 < 0) || decide (j % 4 = 0 ∧ j / 4 < k) := ⟨_, rfl⟩
        have HP := Lib.hid hp
        clear hp
        rw [pf_eq f (fun j => decide (j % 4 < 0)) (p 0) 512 (fun j _ => by rw [HP.out, Bool.eq_iff_iff]; simp)] at H2
        go_wp2_with fail
        go_loopw [13] (fun u wr => ∃ k : Nat, k ≤ 128 ∧ u = .int .i64 (k : Int) ∧ Hid (Hp w wr [rowA 2 .i64 w.heap.size 512 (pf f (p k) 512), rowA 2 .i64 gl 128 T])) (fun u _ => 128 - (intOf u).toNat)
        case atStart => exact ⟨0, by omega, rfl, H2⟩
        case round =>
          clear H2
          obtain ⟨k, hk, rfl, H⟩ := hrel
          by_cases hlt : k < 128
          · have ik : (k : Int) < 128 := by omega
            have sc := H.out.up1.row.cell (i := k) (by rw [FL.out]; exact hlt)
            have hv := FF.out k hlt
            rw [List.getD_eq_getElem?_getD, List.getElem?_eq_getElem (by rw [FL.out]; exact hlt), Option.getD_some] at hv
            rw [← hv] at sc
            obtain ⟨i1, hi1⟩ : ∃ i1 : Nat, i1 = 4 * k + 0 := ⟨_, rfl⟩
            have fr := H.out.row.free i1
            have fc := H.out.row.cell (i := i1) (by rw [pf_len]; omega)
            rw [pf_get] at fc
            have hs := H.out.set i1 (f i1)
            rw [pf_set f (p k) (p (k + 1)) 512 i1 (fun j _ => by rw [HP.out, hi1]; rw [Bool.eq_iff_iff]; simp; omega)] at hs
            rw [← hi1] at sc
            have HS := Lib.hid hs
            have e0 : IntKind.i64.wrap (4 * (k : Int)) = (i1 : Int) := by rw [wrapI64 (by omega) (by omega)]; omega
            have e1 : IntKind.i64.wrap (i1 : Int) = (i1 : Int) := wrapI64 (by omega) (by omega)
            have i2 : (i1 : Int) < 512 := by omega
            have i3 : i1 < 512 := by omega
            obtain ⟨v0, hv0⟩ : ∃ v0, (if p k i1 = true then f i1 else 0) = v0 := ⟨_, rfl⟩
            rw [hv0] at fc
            clear hv0 hs hv
            have HI := Lib.hid hi1
            clear hi1
            go_wp2_with fail
            go_roundw
            case rel => exact ⟨k + 1, by omega, by go_num, HS⟩
            case measure => simp [intOf]; omega
          · obtain rfl : k = 128 := by omega
            rw [pf_eq f (p 128) (fun j => decide (j % 4 < 1)) 512 (fun j _ => by rw [HP.out, Bool.eq_iff_iff]; simp; omega)] at H
            have H3 := Lib.hid (H.out.pk [0])
            clear H
            go_wp2_with fail
            go_roundw
            case rel => exact ⟨1, by omega, by go_num, H3⟩
            case measure => simp [intOf]
      · have z5 : 384 ≤ cap := by omega
        have z6 : ((384 : Nat) : Int) ≤ (cap : Int) := by omega
        have z7 : ¬ cap = 128 := by omega
        go_wp2_with fail
        have lx := XL.out 1 (by decide)
        have bx := XB.out 1
        have sx := SX.out wr H.out.b 1 (cap - 128) (by decide)
        rw [show 128 * 1 = 128 from rfl] at lx bx sx
        first
        | refine (rShape (Src.below SQ.out H.out.b) sx lx (by decide) (by decide) (fun j => by have := bx j; omega)).mono ?_
        | trace_state
        rintro e1 w1 ⟨gs, rfl, hgs, hr, b1⟩
        have H1 := Lib.hid (H.out.add_row b1 hr hgs)
        have sl : (shapev ((X.drop 128).take 256)).length = 256 := by rw [shapev_len, lx]
        have sb := shape_b bx
        clear hr b1 hgs H
        go_wp2_with fail
        have sr := Src.of_sl (Sl.row H1.out.row)
        rw [sl] at sr
        refine (rForward128 (Src.below SQ.out H1.out.b) sr sl (fun j => by have := sb j; omega)).mono ?_
        rintro e2 w2 ⟨gl, rfl, hgl, hr2, b2⟩
        have H2 := Lib.hid ((H1.out.add_row b2 hr2 hgl).pk [2, 0])
        clear hr2 b2 hgl H1 sr sb sl lx bx sx
        have FL : Hid ((fwdv 128 4 134217728 (shapev ((X.drop 128).take 256))).length = 128) := Lib.hid (fwdv_len _ _ _ _)
        have FF : Hid (∀ k, k < 128 → f (4 * k + 1) = (fwdv 128 4 134217728 (shapev ((X.drop 128).take 256))).getD k 0) := Lib.hid (fun k hk => by
          rw [HF.out]
          show (fwdv 128 4 134217728 (shapev ((X.drop (128 * ((4 * k + 1) % 4))).take 256))).getD ((4 * k + 1) / 4) 0 = _
          rw [show (4 * k + 1) % 4 = 1 by omega, show (4 * k + 1) / 4 = k by omega])
        obtain ⟨T, hT⟩ : ∃ T, fwdv 128 4 134217728 (shapev ((X.drop 128).take 256)) = T := ⟨_, rfl⟩
        rw [hT] at H2 FL FF
        clear hT
        obtain ⟨p, hp⟩ : ∃ p : Nat → Nat → Bool, p = fun k j => decide (j % 4 < 1) || decide (j % 4 = 1 ∧ j / 4 < k) := ⟨_, rfl⟩
        have HP := Lib.hid hp
        clear hp
        rw [pf_eq f (fun j => decide (j % 4 < 1)) (p 0) 512 (fun j _ => by rw [HP.out, Bool.eq_iff_iff]; simp)] at H2
        go_wp2_with fail
        go_loopw [13] (fun u wr => ∃ k : Nat, k ≤ 128 ∧ u = .int .i64 (k : Int) ∧ Hid (Hp w wr [rowA 2 .i64 w.heap.size 512 (pf f (p k) 512), rowA 2 .i64 gl 128 T])) (fun u _ => 128 - (intOf u).toNat)
        case atStart => exact ⟨0, by omega, rfl, H2⟩
        case round =>
          clear H2
          obtain ⟨k, hk, rfl, H⟩ := hrel
          by_cases hlt : k < 128
          · have ik : (k : Int) < 128 := by omega
            have sc := H.out.up1.row.cell (i := k) (by rw [FL.out]; exact hlt)
            have hv := FF.out k hlt
            rw [List.getD_eq_getElem?_getD, List.getElem?_eq_getElem (by rw [FL.out]; exact hlt), Option.getD_some] at hv
            rw [← hv] at sc
            obtain ⟨i1, hi1⟩ : ∃ i1 : Nat, i1 = 4 * k + 1 := ⟨_, rfl⟩
            have fr := H.out.row.free i1
            have fc := H.out.row.cell (i := i1) (by rw [pf_len]; omega)
            rw [pf_get] at fc
            have hs := H.out.set i1 (f i1)
            rw [pf_set f (p k) (p (k + 1)) 512 i1 (fun j _ => by rw [HP.out, hi1]; rw [Bool.eq_iff_iff]; simp; omega)] at hs
            rw [← hi1] at sc
            have HS := Lib.hid hs
            have e0 : IntKind.i64.wrap (4 * (k : Int)) = 4 * k := wrapI64 (by omega) (by omega)
            have e1 : IntKind.i64.wrap (4 * (k : Int) + 1) = (i1 : Int) := by rw [wrapI64 (by omega) (by omega)]; omega
            have i2 : (i1 : Int) < 512 := by omega
            have i3 : i1 < 512 := by omega
            obtain ⟨v0, hv0⟩ : ∃ v0, (if p k i1 = true then f i1 else 0) = v0 := ⟨_, rfl⟩
            rw [hv0] at fc
            clear hv0 hs hv
            have HI := Lib.hid hi1
            clear hi1
            go_wp2_with fail
            go_roundw
            case rel => exact ⟨k + 1, by omega, by go_num, HS⟩
            case measure => simp [intOf]; omega
          · obtain rfl : k = 128 := by omega
            rw [pf_eq f (p 128) (fun j => decide (j % 4 < 2)) 512 (fun j _ => by rw [HP.out, Bool.eq_iff_iff]; simp; omega)] at H
            have H3 := Lib.hid (H.out.pk [0])
            clear H
            go_wp2_with fail
            go_roundw
            case rel => exact ⟨2, by omega, by go_num, H3⟩
            case measure => simp [intOf]
      · have z5 : 512 ≤ cap := by omega
        have z6 : ((512 : Nat) : Int) ≤ (cap : Int) := by omega
        have z7 : ¬ cap = 256 := by omega
        go_wp2_with fail
        have lx := XL.out 2 (by decide)
        have bx := XB.out 2
        have sx := SX.out wr H.out.b 2 (cap - 256) (by decide)
        rw [show 128 * 2 = 256 from rfl] at lx bx sx
        first
        | refine (rShape (Src.below SQ.out H.out.b) sx lx (by decide) (by decide) (fun j => by have := bx j; omega)).mono ?_
        | trace_state
        rintro e1 w1 ⟨gs, rfl, hgs, hr, b1⟩
        have H1 := Lib.hid (H.out.add_row b1 hr hgs)
        have sl : (shapev ((X.drop 256).take 256)).length = 256 := by rw [shapev_len, lx]
        have sb := shape_b bx
        clear hr b1 hgs H
        go_wp2_with fail
        have sr := Src.of_sl (Sl.row H1.out.row)
        rw [sl] at sr
        refine (rForward128 (Src.below SQ.out H1.out.b) sr sl (fun j => by have := sb j; omega)).mono ?_
        rintro e2 w2 ⟨gl, rfl, hgl, hr2, b2⟩
        have H2 := Lib.hid ((H1.out.add_row b2 hr2 hgl).pk [2, 0])
        clear hr2 b2 hgl H1 sr sb sl lx bx sx
        have FL : Hid ((fwdv 128 4 134217728 (shapev ((X.drop 256).take 256))).length = 128) := Lib.hid (fwdv_len _ _ _ _)
        have FF : Hid (∀ k, k < 128 → f (4 * k + 2) = (fwdv 128 4 134217728 (shapev ((X.drop 256).take 256))).getD k 0) := Lib.hid (fun k hk => by
          rw [HF.out]
          show (fwdv 128 4 134217728 (shapev ((X.drop (128 * ((4 * k + 2) % 4))).take 256))).getD ((4 * k + 2) / 4) 0 = _
          rw [show (4 * k + 2) % 4 = 2 by omega, show (4 * k + 2) / 4 = k by omega])
        obtain ⟨T, hT⟩ : ∃ T, fwdv 128 4 134217728 (shapev ((X.drop 256).take 256)) = T := ⟨_, rfl⟩
        rw [hT] at H2 FL FF
        clear hT
        obtain ⟨p, hp⟩ : ∃ p : Nat → Nat → Bool, p = fun k j => decide (j % 4 < 2) || decide (j % 4 = 2 ∧ j / 4 < k) := ⟨_, rfl⟩
        have HP := Lib.hid hp
        clear hp
        rw [pf_eq f (fun j => decide (j % 4 < 2)) (p 0) 512 (fun j _ => by rw [HP.out, Bool.eq_iff_iff]; simp)] at H2
        go_wp2_with fail
        go_loopw [13] (fun u wr => ∃ k : Nat, k ≤ 128 ∧ u = .int .i64 (k : Int) ∧ Hid (Hp w wr [rowA 2 .i64 w.heap.size 512 (pf f (p k) 512), rowA 2 .i64 gl 128 T])) (fun u _ => 128 - (intOf u).toNat)
        case atStart => exact ⟨0, by omega, rfl, H2⟩
        case round =>
          clear H2
          obtain ⟨k, hk, rfl, H⟩ := hrel
          by_cases hlt : k < 128
          · have ik : (k : Int) < 128 := by omega
            have sc := H.out.up1.row.cell (i := k) (by rw [FL.out]; exact hlt)
            have hv := FF.out k hlt
            rw [List.getD_eq_getElem?_getD, List.getElem?_eq_getElem (by rw [FL.out]; exact hlt), Option.getD_some] at hv
            rw [← hv] at sc
            obtain ⟨i1, hi1⟩ : ∃ i1 : Nat, i1 = 4 * k + 2 := ⟨_, rfl⟩
            have fr := H.out.row.free i1
            have fc := H.out.row.cell (i := i1) (by rw [pf_len]; omega)
            rw [pf_get] at fc
            have hs := H.out.set i1 (f i1)
            rw [pf_set f (p k) (p (k + 1)) 512 i1 (fun j _ => by rw [HP.out, hi1]; rw [Bool.eq_iff_iff]; simp; omega)] at hs
            rw [← hi1] at sc
            have HS := Lib.hid hs
            have e0 : IntKind.i64.wrap (4 * (k : Int)) = 4 * k := wrapI64 (by omega) (by omega)
            have e1 : IntKind.i64.wrap (4 * (k : Int) + 2) = (i1 : Int) := by rw [wrapI64 (by omega) (by omega)]; omega
            have i2 : (i1 : Int) < 512 := by omega
            have i3 : i1 < 512 := by omega
            obtain ⟨v0, hv0⟩ : ∃ v0, (if p k i1 = true then f i1 else 0) = v0 := ⟨_, rfl⟩
            rw [hv0] at fc
            clear hv0 hs hv
            have HI := Lib.hid hi1
            clear hi1
            go_wp2_with fail
            go_roundw
            case rel => exact ⟨k + 1, by omega, by go_num, HS⟩
            case measure => simp [intOf]; omega
          · obtain rfl : k = 128 := by omega
            rw [pf_eq f (p 128) (fun j => decide (j % 4 < 3)) 512 (fun j _ => by rw [HP.out, Bool.eq_iff_iff]; simp; omega)] at H
            have H3 := Lib.hid (H.out.pk [0])
            clear H
            go_wp2_with fail
            go_roundw
            case rel => exact ⟨3, by omega, by go_num, H3⟩
            case measure => simp [intOf]
      · have z5 : 640 ≤ cap := by omega
        have z6 : ((640 : Nat) : Int) ≤ (cap : Int) := by omega
        have z7 : ¬ cap = 384 := by omega
        go_wp2_with fail
        have lx := XL.out 3 (by decide)
        have bx := XB.out 3
        have sx := SX.out wr H.out.b 3 (cap - 384) (by decide)
        rw [show 128 * 3 = 384 from rfl] at lx bx sx
        first
        | refine (rShape (Src.below SQ.out H.out.b) sx lx (by decide) (by decide) (fun j => by have := bx j; omega)).mono ?_
        | trace_state
        rintro e1 w1 ⟨gs, rfl, hgs, hr, b1⟩
        have H1 := Lib.hid (H.out.add_row b1 hr hgs)
        have sl : (shapev ((X.drop 384).take 256)).length = 256 := by rw [shapev_len, lx]
        have sb := shape_b bx
        clear hr b1 hgs H
        go_wp2_with fail
        have sr := Src.of_sl (Sl.row H1.out.row)
        rw [sl] at sr
        refine (rForward128 (Src.below SQ.out H1.out.b) sr sl (fun j => by have := sb j; omega)).mono ?_
        rintro e2 w2 ⟨gl, rfl, hgl, hr2, b2⟩
        have H2 := Lib.hid ((H1.out.add_row b2 hr2 hgl).pk [2, 0])
        clear hr2 b2 hgl H1 sr sb sl lx bx sx
        have FL : Hid ((fwdv 128 4 134217728 (shapev ((X.drop 384).take 256))).length = 128) := Lib.hid (fwdv_len _ _ _ _)
        have FF : Hid (∀ k, k < 128 → f (4 * k + 3) = (fwdv 128 4 134217728 (shapev ((X.drop 384).take 256))).getD k 0) := Lib.hid (fun k hk => by
          rw [HF.out]
          show (fwdv 128 4 134217728 (shapev ((X.drop (128 * ((4 * k + 3) % 4))).take 256))).getD ((4 * k + 3) / 4) 0 = _
          rw [show (4 * k + 3) % 4 = 3 by omega, show (4 * k + 3) / 4 = k by omega])
        obtain ⟨T, hT⟩ : ∃ T, fwdv 128 4 134217728 (shapev ((X.drop 384).take 256)) = T := ⟨_, rfl⟩
        rw [hT] at H2 FL FF
        clear hT
        obtain ⟨p, hp⟩ : ∃ p : Nat → Nat → Bool, p = fun k j => decide (j % 4 < 3) || decide (j % 4 = 3 ∧ j / 4 < k) := ⟨_, rfl⟩
        have HP := Lib.hid hp
        clear hp
        rw [pf_eq f (fun j => decide (j % 4 < 3)) (p 0) 512 (fun j _ => by rw [HP.out, Bool.eq_iff_iff]; simp)] at H2
        go_wp2_with fail
        go_loopw [13] (fun u wr => ∃ k : Nat, k ≤ 128 ∧ u = .int .i64 (k : Int) ∧ Hid (Hp w wr [rowA 2 .i64 w.heap.size 512 (pf f (p k) 512), rowA 2 .i64 gl 128 T])) (fun u _ => 128 - (intOf u).toNat)
        case atStart => exact ⟨0, by omega, rfl, H2⟩
        case round =>
          clear H2
          obtain ⟨k, hk, rfl, H⟩ := hrel
          by_cases hlt : k < 128
          · have ik : (k : Int) < 128 := by omega
            have sc := H.out.up1.row.cell (i := k) (by rw [FL.out]; exact hlt)
            have hv := FF.out k hlt
            rw [List.getD_eq_getElem?_getD, List.getElem?_eq_getElem (by rw [FL.out]; exact hlt), Option.getD_some] at hv
            rw [← hv] at sc
            obtain ⟨i1, hi1⟩ : ∃ i1 : Nat, i1 = 4 * k + 3 := ⟨_, rfl⟩
            have fr := H.out.row.free i1
            have fc := H.out.row.cell (i := i1) (by rw [pf_len]; omega)
            rw [pf_get] at fc
            have hs := H.out.set i1 (f i1)
            rw [pf_set f (p k) (p (k + 1)) 512 i1 (fun j _ => by rw [HP.out, hi1]; rw [Bool.eq_iff_iff]; simp; omega)] at hs
            rw [← hi1] at sc
            have HS := Lib.hid hs
            have e0 : IntKind.i64.wrap (4 * (k : Int)) = 4 * k := wrapI64 (by omega) (by omega)
            have e1 : IntKind.i64.wrap (4 * (k : Int) + 3) = (i1 : Int) := by rw [wrapI64 (by omega) (by omega)]; omega
            have i2 : (i1 : Int) < 512 := by omega
            have i3 : i1 < 512 := by omega
            obtain ⟨v0, hv0⟩ : ∃ v0, (if p k i1 = true then f i1 else 0) = v0 := ⟨_, rfl⟩
            rw [hv0] at fc
            clear hv0 hs hv
            have HI := Lib.hid hi1
            clear hi1
            go_wp2_with fail
            go_roundw
            case rel => exact ⟨k + 1, by omega, by go_num, HS⟩
            case measure => simp [intOf]; omega
          · obtain rfl : k = 128 := by omega
            rw [pf_eq f (p 128) (fun j => decide (j % 4 < 4)) 512 (fun j _ => by rw [HP.out, Bool.eq_iff_iff]; simp; omega)] at H
            have H3 := Lib.hid (H.out.pk [0])
            clear H
            go_wp2_with fail
            go_roundw
            case rel => exact ⟨4, by omega, by go_num, H3⟩
            case measure => simp [intOf]
    · obtain rfl : m = 4 := by omega
      go_wp2_with fail
      go_ret
      exact ⟨_, rfl, H.out.row_ge.1, H.out.row, H.out.b⟩
end Go.Proofs.Ytngldpeapcbbpaa.Lap

/-
  Words: arguments opened to their cells, structs in structs and slices of these. Plain theorems; no condition.
-/
set_option linter.unusedVariables false
namespace Go.Proofs.Ytngldpeapcbbpaa.Op
open Go.ChangeShapes Go.WideShapes Go.Deep Go.RowKit

/-- The cells of a type that are no struct: how far behind, of which type. -/
def leafs (P : Program) : Nat → Nat → TypeId → List (Nat × TypeId)
  | 0, o, t => [(o, t)]
  | n + 1, o, t => match P.underlying t with
    | some (.struct fs) => fs.toList.flatMap fun f => leafs P n (o + f.offset) f.type
    | _ => [(o, t)]
/-- Each lies inside. -/
def leafsOk (P : Program) : Nat → TypeId → Bool
  | 0, t => P.cellsOf t == 1
  | n + 1, t => match P.underlying t with
    | some (.struct fs) => fs.toList.all fun f => decide (f.offset + P.cellsOf f.type ≤ P.cellsOf t) && leafsOk P n f.type
    | _ => P.cellsOf t == 1
section
variable {H : Type} {enc : TypeId × Value → H} {P : Program} {w : World} {base : Nat} {spare : Nat → Bool} {held : Bool}
theorem open_leafs : ∀ (n o fuel : Nat) (t : TypeId) (cs : List Value) (x : DataW H × List MemPlace), DataW.trod enc P w base spare held fuel t cs = some x → leafsOk P n t = true → cs.length = P.cellsOf t →
    ∀ p ∈ leafs P n o t, ∃ (i : Nat) (v : Value) (y : DataW H × List MemPlace) (m : Nat), p.1 = o + i ∧ i < P.cellsOf t ∧ cs[i]? = some v ∧ DataW.trod enc P w base spare held m p.2 [v] = some y
  | 0, o, fuel, t, cs, x, h, ok, hl, p, hp => by
    simp only [leafs, List.mem_singleton] at hp
    simp only [leafsOk, beq_iff_eq] at ok
    subst hp
    rw [ok] at hl
    match cs, hl with
    | [v], _ => exact ⟨0, v, x, fuel, rfl, by omega, rfl, h⟩
  | n + 1, o, fuel, t, cs, x, h, ok, hl, p, hp => by
    unfold leafs at hp
    unfold leafsOk at ok
    split at hp
    · rename_i fs hfs
      rw [hfs] at ok
      simp only at ok
      rw [List.mem_flatMap] at hp
      obtain ⟨f, hf, hp⟩ := hp
      have hok := List.all_eq_true.1 ok f hf
      simp only [Bool.and_eq_true, decide_eq_true_eq] at hok
      obtain ⟨ys, m, hm, hx, hc, hyl, hg⟩ := DataW.trod_struct hfs h
      obtain ⟨j, hj, hjf⟩ := List.getElem_of_mem hf
      have hfj : fs[j]? = some f := by
        rw [Array.getElem?_eq_some_iff]
        exact ⟨by simpa using hj, by simpa using hjf⟩
      have h1 := hg j f hfj
      have hjl : j < ys.length := by rw [hyl]; simpa using hj
      rw [List.getElem?_eq_getElem hjl] at h1
      obtain ⟨i, v, y, m', e1, e2, e3, e4⟩ := open_leafs n (o + f.offset) m f.type _ _ h1 hok.2 (by rw [List.length_take, List.length_drop, hl]; omega) p hp
      refine ⟨f.offset + i, v, y, m', by omega, by omega, ?_, e4⟩
      rw [List.getElem?_take, if_pos e2, List.getElem?_drop] at e3
      exact e3
    · rename_i hns
      simp only [List.mem_singleton] at hp
      subst hp
      have ok1 : P.cellsOf t = 1 := by
        split at ok
        · rename_i fs hfs
          exact absurd hfs (hns fs)
        · simpa using ok
      rw [ok1] at hl
      match cs, hl with
      | [v], _ => exact ⟨0, v, x, fuel, rfl, by omega, rfl, h⟩
/-- A slice of such. -/
theorem open_rows {t e : TypeId} {fuel : Nat} {cs : List Value} {x : DataW H × List MemPlace} {n C : Nat} (ht : P.underlying t = some (.slice e)) (ok : leafsOk P n e = true) (hC : P.cellsOf e = C) (h : DataW.trod enc P w base spare held fuel t cs = some x) :
    cs = [.slice none 0 0] ∨ ∃ (a : Addr) (len cap : Nat), cs = [.slice (some a) len cap] ∧ len ≤ cap ∧ cap ≤ maxLen ∧
      ∀ i, i < len → ∀ p ∈ leafs P n 0 e, ∃ (v : Value) (y : DataW H × List MemPlace) (m : Nat), w.cell? (a.add (i * C + p.1)) = some v ∧ DataW.trod enc P w base spare held m p.2 [v] = some y := by
  rcases open_slice ht h with ⟨h0, _⟩ | ⟨a, len, cap, m, k, D, Pl, rfl, hb, hl, hm, hmm, rfl, hx⟩
  · exact .inl h0
  · refine .inr ⟨a, len, cap, rfl, hl, hm, fun i hi p hp => ?_⟩
    have hlm : len ≤ m := by rw [hmm]; split <;> omega
    obtain ⟨cs', h1, h2⟩ := hx i (by omega)
    rw [hC] at h1
    obtain ⟨_, hlen, hcell⟩ := World.cells?_some h1
    obtain ⟨o, v, y, m', e1, e2, e3, e4⟩ := open_leafs n 0 k e cs' _ h2 ok (by rw [hlen, hC]) p hp
    rw [hC] at e2
    refine ⟨v, y, m', ?_, e4⟩
    rw [← add_add, show p.1 = o by omega, hcell o e2, e3]
theorem leaf_int {t : TypeId} {k : IntKind} {m : Nat} {v : Value} {y : DataW H × List MemPlace} (ht : P.underlying t = some (.int k)) (h : DataW.trod enc P w base spare held m t [v] = some y) : ∃ n, v = .int k n ∧ (Lit.int k n).wf = true := by
  obtain ⟨n, h1, _, h2⟩ := DataW.trod_int ht h
  simp only [List.cons.injEq, and_true] at h1
  exact ⟨n, h1, h2⟩
theorem leaf_bool {t : TypeId} {m : Nat} {v : Value} {y : DataW H × List MemPlace} (ht : P.underlying t = some .bool) (h : DataW.trod enc P w base spare held m t [v] = some y) : ∃ b, v = .bool b := by
  obtain ⟨n, h1, _⟩ := DataW.trod_bool ht h
  simp only [List.cons.injEq, and_true] at h1
  exact ⟨n, h1⟩
theorem leaf_string {t : TypeId} {m : Nat} {v : Value} {y : DataW H × List MemPlace} (ht : P.underlying t = some .string) (h : DataW.trod enc P w base spare held m t [v] = some y) : ∃ s : ByteArray, v = .string s ∧ s.size ≤ maxLen := by
  obtain ⟨n, h1, _, h2⟩ := DataW.trod_string ht h
  simp only [List.cons.injEq, and_true] at h1
  exact ⟨n, h1, h2⟩
/-- An array of two whole numbers, by value. -/
theorem open_pair {r : Reach} {b0 : Nat} {t e : TypeId} {k : IntKind} {v : Value} {d : DataW H} {p : List MemPlace} (ht : P.underlying t = some (.array 2 e)) (he : P.underlying e = some (.int k)) (hc : P.cellsOf e = 1) (hC : P.cellsOf t = 2)
    (hv : Value.okWide P w r b0 t v) (h : DataW.Trod enc P w base spare held t v d p) : ∃ x y : Int, v = .agg #[.int k x, .int k y] ∧ (Lit.int k x).wf = true ∧ (Lit.int k y).wf = true := by
  obtain ⟨cs, rfl, hsz, _⟩ : ∃ cs, v = .agg cs ∧ cs.size = P.cellsOf t ∧ Row.okWide P w r b0 t cs := by simpa [Value.okWide, ht] using hv
  rw [hC] at hsz
  obtain ⟨l⟩ := cs
  match l, hsz with
  | [c0, c1], _ =>
    obtain ⟨fuel, hf⟩ := h
    obtain ⟨xs, m, _, _, _, hl, hel⟩ := DataW.trod_array ht hf
    match xs, hl with
    | [y0, y1], _ =>
      have g0 := hel 0 (by decide)
      have g1 := hel 1 (by decide)
      simp [Value.cells, hc] at g0 g1
      obtain ⟨n0, e0, _, f0⟩ := DataW.trod_int he g0
      obtain ⟨n1, e1, _, f1⟩ := DataW.trod_int he g1
      simp at e0 e1
      subst e0 e1
      exact ⟨n0, n1, rfl, f0, f1⟩
/-- A row of things, one for each index. -/
theorem rows_list {α : Type} [Inhabited α] {n : Nat} {p : Nat → α → Prop} (h : ∀ i, i < n → ∃ x, p i x) : ∃ l : List α, l.length = n ∧ ∀ i (hi : i < l.length), p i l[i] := by
  obtain ⟨f, hf⟩ := choose_lt h
  refine ⟨(List.range n).map f, by simp, fun i hi => ?_⟩
  simp at hi
  simp [hf i hi]
end
end Go.Proofs.Ytngldpeapcbbpaa.Op

/-
  Words: a copy inside a row; slices of bools that come in. Plain theorems; no condition.
-/
set_option linter.unusedVariables false
set_option linter.unusedSimpArgs false
namespace Go.Proofs.Ytngldpeapcbbpaa
open Go.RowKit

theorem RowI.whole {w : World} {e : TypeId} {k : IntKind} {g : Nat} {xs : List Int} (h : RowI w e k g xs.length xs) : Blk w g e (xs.map (Value.int k)).toArray := by
  obtain ⟨cs, hb, _, _, h3, hc⟩ := h
  have : cs = (xs.map (Value.int k)).toArray := by
    apply Array.ext
    · simpa using h3
    · intro i h1 h2
      have := hc i (by omega)
      rw [Array.getElem?_eq_getElem h1] at this
      injection this with this
      simpa using this
  rw [← this]
  exact hb
theorem RowI.of_whole {w : World} {e : TypeId} {k : IntKind} {g : Nat} {xs : List Int} (h : Blk w g e (xs.map (Value.int k)).toArray) (hm : xs.length ≤ maxLen) : RowI w e k g xs.length xs :=
  ⟨_, h, Nat.le_refl _, hm, by simp, fun i hi => by simp [hi]⟩
theorem wpList_copyR {P : Program} {w : World} {ops : Array Oper} {rest : List Oper} {o : Oper} {a : Act} {Q : Exit → Act → World → Prop} (hgd : o.guard = none) (d s : Operand) (dT sT : TypeId)
    (ho : o.op = .call { callee := .builtin .copy, args := #[d, s], argTypes := #[dT, sT] }) (e : TypeId) (hu : P.underlying dT = some (.slice e)) (hsz : (P.info? e).map (·.size) = some 1)
    {k : IntKind} (g off dLen dCap : Nat) (ad : Addr) (sLen sCap : Nat) (hd : a.eval d = .slice (some ⟨g, off, none⟩) dLen dCap) (hs : a.eval s = .slice (some ad) sLen sCap)
    (xs ys : List Int) (hr : RowI w e k g xs.length xs) (hn : ys.length = Nat.min sLen dLen)
    (hsrc : ∀ j (h : j < ys.length), w.cell? (ad.add j) = some (.int k ys[j])) (hfit : off + ys.length ≤ xs.length)
    (h : ∀ w', RowI w' e k g xs.length (splice xs off ys) → Only (fun i => i = g) w w' → wpList P ops Q rest (a.put o.dst (goInt ys.length)) w') : wpList P ops Q (o :: rest) a w := by
  have hw := hr.whole
  have hlen := hr.len
  refine wpList_copy_own hgd d s dT sT ho e hu hsz g off dLen dCap ad sLen sCap hd hs (xs.map (Value.int k)).toArray e (by exact hw) (ys.map (Value.int k)) (by simpa using hn) (fun j v hj => ?_) (by simpa using hfit) (fun v hv => ?_) ?_
  · rw [List.getElem?_map] at hj
    have hjl : j < ys.length := by
      rcases Nat.lt_or_ge j ys.length with h1 | h1
      · exact h1
      · rw [List.getElem?_eq_none h1] at hj; cases hj
    rw [List.getElem?_eq_getElem hjl] at hj
    injection hj with hj
    rw [hsrc j hjl, hj]
  · obtain ⟨z, _, rfl⟩ := List.mem_map.1 hv; rfl
  · rw [List.length_map]
    refine h _ ?_ (Only.row (S := fun i => i = g) (Only.refl _ w) (g := g) (.inl rfl) _)
    have hb := hw.row ((xs.map (Value.int k)).toArray.toList.take off ++ (ys.map (Value.int k) ++ (xs.map (Value.int k)).toArray.toList.drop (off + ys.length))).toArray
    have e1 : (xs.map (Value.int k)).toArray.toList.take off ++ (ys.map (Value.int k) ++ (xs.map (Value.int k)).toArray.toList.drop (off + ys.length)) = (splice xs off ys).map (Value.int k) := by
      unfold splice
      simp
    rw [e1] at hb ⊢
    have el := length_splice xs off ys hfit
    have := RowI.of_whole hb (by rw [el]; exact hlen.2)
    rw [el] at this
    exact this
/-- A slice of bools as it comes in. -/
def Bools (w : World) (A : Option Addr) (len cap : Nat) (z : List Bool) : Prop :=
  (A = none ∧ len = 0 ∧ cap = 0 ∧ z = []) ∨ ∃ x, A = some x ∧ len ≤ cap ∧ cap ≤ maxLen ∧ z.length = len ∧ ∀ i (h : i < z.length), w.cell? (x.add i) = some (.bool z[i])
theorem Bools.len {w : World} {A : Option Addr} {len cap : Nat} {z : List Bool} (h : Bools w A len cap z) : z.length = len := by
  rcases h with ⟨_, rfl, _, rfl⟩ | ⟨x, _, _, _, h, _⟩
  · rfl
  · exact h
theorem Bools.at {w w' : World} {A : Option Addr} {len cap : Nat} {z : List Bool} (h : Bools w A len cap z) (b : Below w.heap.size w w') {i : Nat} (hi : i < len) : ∃ x, A = some x ∧ w'.cell? (x.add i) = some (.bool (z.getD i false)) := by
  rcases h with ⟨_, rfl, _, rfl⟩ | ⟨x, rfl, _, _, h, hc⟩
  · omega
  · have h1 := hc i (by omega)
    refine ⟨x, rfl, ?_⟩
    have hlt := World.block_lt_of_cell? _ _ h1
    rw [Below.cell b hlt, h1, List.getD_eq_getElem?_getD, List.getElem?_eq_getElem (by omega)]
    rfl
theorem bools_open {H : Type} {enc : TypeId × Value → H} {W : World} {base fuel : Nat} {spare : Nat → Bool} {held : Bool} {A : Option Addr} {len cap : Nat} {x : DataW H × List MemPlace}
    (h : DataW.trod enc Try.prog W base spare held fuel 45 [.slice A len cap] = some x) : ∃ z, Bools W A len cap z := by
  rcases Op.open_rows (n := 0) (C := 1) (e := 4) (by kernel_rfl) (by kernel_rfl) (by kernel_rfl) h with h0 | ⟨a, l, c, e, h1, h2, hx⟩
  · simp only [List.cons.injEq, Value.slice.injEq, and_true] at h0
    obtain ⟨rfl, rfl, rfl⟩ := h0
    exact ⟨[], .inl ⟨rfl, rfl, rfl, rfl⟩⟩
  · simp only [List.cons.injEq, Value.slice.injEq, and_true] at e
    obtain ⟨rfl, rfl, rfl⟩ := e
    have ub : Try.prog.underlying 4 = some .bool := by kernel_rfl
    obtain ⟨z, hz, hzz⟩ := Op.rows_list (p := fun i (q : Bool) => W.cell? (a.add i) = some (.bool q)) (n := len) (fun i hi => by
      obtain ⟨v0, y0, m0, c0, t0⟩ := hx i hi (0, 4) (by simp [Op.leafs])
      obtain ⟨b, rfl⟩ := Op.leaf_bool ub t0
      simp only [Nat.mul_one, Nat.add_zero] at c0
      exact ⟨b, c0⟩)
    exact ⟨z, .inr ⟨_, rfl, h1, h2, hz, hzz⟩⟩
end Go.Proofs.Ytngldpeapcbbpaa

/-
  Law 9: a frame, and that it lives; walks. No condition but those told.
-/
set_option linter.unusedVariables false
set_option linter.unusedSimpArgs false
namespace Go.Proofs.Ytngldpeapcbbpaa.Lap
open Go.RowKit Go.Proofs.Ytngldpeapcbbpaa Go.Proofs.Ytngldpeapcbbpaa.Bnd Go.Proofs.Ytngldpeapcbbpaa.Art Go.Proofs.YtngldpeapcbbpaaW.PrintWords

/-- A frame of some samples, again and again, from one on. -/
def frameAt (ys : List Int) (from_ i : Nat) : Int := if ys.length = 0 then 0 else ys.getD ((from_ + i) % ys.length) 0
def framev (ys : List Int) (from_ : Nat) : List Int := (List.range 512).map (frameAt ys from_)
theorem framev_len (ys : List Int) (n : Nat) : (framev ys n).length = 512 := by simp [framev]
theorem framev_at (ys : List Int) (n i : Nat) (h : i < 512) : (framev ys n).getD i 0 = frameAt ys n i := by
  unfold framev
  rw [List.getD_eq_getElem?_getD, List.getElem?_map, List.getElem?_range h]
  rfl
theorem frame_b {ys : List Int} (h : ∀ j, -32768 ≤ ys.getD j 0 ∧ ys.getD j 0 ≤ 32767) (n j : Nat) : -32768 ≤ (framev ys n).getD j 0 ∧ (framev ys n).getD j 0 ≤ 32767 := by
  by_cases hj : j < 512
  · rw [framev_at _ _ _ hj]
    unfold frameAt
    split
    · decide
    · exact h _
  · rw [List.getD_eq_getElem?_getD, List.getElem?_eq_none (by rw [framev_len]; omega)]
    decide
set_option maxHeartbeats 1000000 in
set_option maxRecDepth 100000 in
theorem Frame_h {W w : World} {l : List Ast} (H : Hp W w l) {A : Option Addr} {len cap : Nat} {ys : List Int} (rd : Rd W l .i16 (.slice A len cap) ys) (hl : ys.length = len) (hs : len ≤ 100000) (from_ : Nat) (hf : from_ ≤ 100000) :
    Calls Try.prog 28 #[.slice A len cap, .int .i64 from_] w fun e w' => ∃ g, e = .returned (.slice (some ⟨g, 0, none⟩) 512 512) ∧ Hp W w' (rowA 49 .i16 g 512 (framev ys from_) :: l) := by
  have RD := Lib.hid rd
  have HL := Lib.hid hl
  obtain ⟨f, hff⟩ : ∃ f : Nat → Int, f = frameAt ys from_ := ⟨_, rfl⟩
  rw [show framev ys from_ = fillTo f 512 512 by rw [fillTo_all, hff]; rfl]
  have HF := Lib.hid hff
  have hm := mk16 512 (by decide)
  rw [show ((512 : Nat) : Int) = 512 from rfl] at hm
  obtain ⟨g, hg⟩ : ∃ g, w.heap.size = g := ⟨_, rfl⟩
  have H0 : Hid (Hp W (w.alloc (.cells (madeCells #[.int .i16 0] 512) 49)) (rowA 49 .i16 g 512 (fillTo f 512 0) :: l)) := Lib.hid (by rw [fillTo_zero, ← hg]; exact H.new_row 49 .i16 512 0 (by decide))
  clear rd hl hff H
  go_enter Try.func28, Try.ntmps28
  go_wp2_with fail
  try rw [hg]
  clear hg
  go_loopw [10] (fun u wr => ∃ k : Nat, k ≤ 512 ∧ u = .int .i64 (k : Int) ∧ Hid (Hp W wr (rowA 49 .i16 g 512 (fillTo f 512 k) :: l))) (fun u _ => 512 - (intOf u).toNat)
  case atStart => exact ⟨0, by omega, rfl, H0⟩
  case round =>
    clear H0
    obtain ⟨k, hk, rfl, H⟩ := hrel
    by_cases hlt : k < 512
    · have ik : (k : Int) < 512 := by omega
      have hs := H.out.set k (f k)
      rw [fillTo_set] at hs
      have HS := Lib.hid hs
      have fr := H.out.row.free k
      have fc := H.out.row.cell (i := k) (by rw [fillTo_len]; omega)
      rw [fillTo_at] at fc
      have hv : f k = frameAt ys from_ k := by rw [HF.out]
      clear hs
      by_cases h0 : len = 0
      · have l1 : decide ((0 : Int) < (len : Int)) = false := decide_eq_false (by omega)
        have hz : f k = 0 := by rw [hv]; unfold frameAt; rw [HL.out, if_pos h0]
        rw [hz] at HS
        have HS' : Hid (Hp W wr (rowA 49 .i16 g 512 (fillTo f 512 (k + 1)) :: l)) := Lib.hid (by
          have h1 := H.out
          rw [show fillTo f 512 (k + 1) = fillTo f 512 k by rw [← fillTo_set, hz]; apply List.ext_getElem; simp; intro j h1 h2; rw [List.getElem_set]; split; (rename_i e; subst e; exact (fillTo_at (f := f) ..).symm); rfl]
          exact h1)
        clear hv hz HS fc fr
        go_wp2_with fail
        go_roundw
        case rel => exact ⟨k + 1, by omega, by go_num, HS'⟩
        case measure => simp [intOf]; omega
      · have l2 : (0 : Int) < (len : Int) := by omega
        have l3 : ¬ (len : Int) = 0 := by omega
        have l4 : ((len : Int) == 0) = false := by rw [beq_eq_false_iff_ne]; omega
        have l5 : (len : Int) ≠ 0 := by omega
        obtain ⟨m, hm⟩ : ∃ m : Nat, (from_ + k) % len = m := ⟨_, rfl⟩
        have ml : m < len := by rw [← hm]; exact Nat.mod_lt _ (by omega)
        have e1 : Int.tmod ((from_ : Int) + (k : Int)) (len : Int) = (m : Int) := by rw [Int.tmod_eq_emod_of_nonneg (by omega), ← hm, Int.natCast_emod]; rfl
        have e2 : ((from_ : Int) + (k : Int)) % (len : Int) = (m : Int) := by rw [← hm, Int.natCast_emod]; rfl
        have e3 : IntKind.i64.wrap ((from_ : Int) + (k : Int)) = (from_ : Int) + k := wrapI64 (by omega) (by omega)
        have e4 : IntKind.i64.wrap (m : Int) = m := wrapI64 (by omega) (by omega)
        have hz : f k = ys.getD m 0 := by rw [hv]; unfold frameAt; rw [HL.out, if_neg h0, hm]
        obtain ⟨ad, rfl, hc⟩ := Src.at (RD.out _ H.out.drop) (j := m) (by rw [HL.out]; exact ml)
        rw [← hz] at hc
        have mi : (m : Int) < (len : Int) := by omega
        clear hv hz
        have HM := Lib.hid hm
        clear hm
        go_wp2_with fail
        go_roundw
        case rel => exact ⟨k + 1, by omega, by go_num, HS⟩
        case measure => simp [intOf]; omega
    · obtain rfl : k = 512 := by omega
      go_wp2_with fail
      go_ret
      exact ⟨_, rfl, H.out⟩

end Go.Proofs.Ytngldpeapcbbpaa.Lap

/-
  Overlap: a synth's clone; the program's walk. No condition but those told.
-/
set_option linter.unusedVariables false
set_option linter.unusedSimpArgs false
namespace Go.Proofs.Ytngldpeapcbbpaa.Lap
open Go.RowKit Go.Proofs.Ytngldpeapcbbpaa Go.Proofs.Ytngldpeapcbbpaa.Bnd Go.Proofs.Ytngldpeapcbbpaa.Art Go.Proofs.YtngldpeapcbbpaaW.PrintWords

set_option maxHeartbeats 4000000 in
set_option maxRecDepth 100000 in
theorem Clone_h {W w : World} {l : List Ast} {s c lo br : Nat} {v : Value} {tail : List Int} (H : Hp W w (synA s c lo br v :: slA 2 .i64 v tail :: l)) (tl : tail.length ≤ 1000) :
    Calls Try.prog 33 #[.pointer (some ⟨s, 0, none⟩)] w fun e w' => ∃ s2 v2, e = .returned (.pointer (some ⟨s2, 0, none⟩)) ∧ Hp W w' (synA s2 c lo br v2 :: slA 2 .i64 v2 tail :: synA s c lo br v :: slA 2 .i64 v tail :: l) := by
  obtain ⟨Av, cv, rfl, _⟩ := H.up1.sl.form
  have HH := Lib.hid H
  have TL := Lib.hid tl
  have S0 := Lib.hid (Sl_empty w.drew 2 .i64)
  have S1 := Lib.hid (Src.of_sl (H.drew.alloc (.cells #[] 2)).up1.sl)
  clear H tl
  go_enter Try.func33, Try.ntmps33
  go_wp2_with fail
  refine wp_region_noPanic ?_
  refine wp_region_any (by kernel_rfl) ?_
  try (change wpAny _ _ _ _ _ _ _ (World.drew _))
  refine wpAny_of_held (S := fun w5 => Hp W w5 (synA s c lo br (.slice Av tail.length cv) :: slA 2 .i64 (.slice Av tail.length cv) tail :: l)) _ _ _ _ ?_
  have hHeld := HH.out.drew
  refine wpAnyH_take (i := 0) (v := ?_) rfl (by kernel_rfl) (by kernel_rfl) (by kernel_rfl) (fun _ _ _ h => h) (Or.inl ⟨by kernel_rfl, ?_⟩) hHeld ?_
  rotate_left
  · intro w hSw
    first | (go_simp; done) | (go_simp; with_reducible rfl)
  try simp only [Act.put, List.getElem_toArray, List.getElem_cons_zero, List.getElem_cons_succ, List.setIfInBounds_toArray, List.set_cons_zero, List.set_cons_succ]
  refine wpAnyH_take (i := 1) (v := ?_) rfl (by kernel_rfl) (by kernel_rfl) (by kernel_rfl) (fun _ _ _ h => h) (Or.inl ⟨by kernel_rfl, ?_⟩) hHeld ?_
  rotate_left
  · intro w hSw
    first | (go_simp; done) | (go_simp; with_reducible rfl)
  try simp only [Act.put, List.getElem_toArray, List.getElem_cons_zero, List.getElem_cons_succ, List.setIfInBounds_toArray, List.set_cons_zero, List.set_cons_succ]
  refine wpAnyH_take (i := 2) (v := ?_) rfl (by kernel_rfl) (by kernel_rfl) (by kernel_rfl) (fun _ _ _ h => h) (Or.inl ⟨by kernel_rfl, ?_⟩) hHeld ?_
  rotate_left
  · intro w hSw
    first | (go_simp; done) | (go_simp; with_reducible rfl)
  try simp only [Act.put, List.getElem_toArray, List.getElem_cons_zero, List.getElem_cons_succ, List.setIfInBounds_toArray, List.set_cons_zero, List.set_cons_succ]
  refine wpAnyH_take (i := 3) (v := ?_) rfl (by kernel_rfl) (by kernel_rfl) (by kernel_rfl) (fun _ _ _ h => h) (Or.inl ⟨by kernel_rfl, ?_⟩) hHeld ?_
  rotate_left
  · intro w hSw
    have d0 := (Hp.blk hSw).cell (i := 0) rfl
    have d1 := (Hp.blk hSw).cell (i := 1) rfl
    have d2 := (Hp.blk hSw).cell (i := 2) rfl
    first | (go_simp; done) | (go_simp; with_reducible rfl)
  try simp only [Act.put, List.getElem_toArray, List.getElem_cons_zero, List.getElem_cons_succ, List.setIfInBounds_toArray, List.set_cons_zero, List.set_cons_succ]
  refine wpAnyH_take (i := 5) (v := ?_) rfl (by kernel_rfl) (by kernel_rfl) (by kernel_rfl) (fun _ _ _ h => h) (Or.inl ⟨by kernel_rfl, ?_⟩) hHeld ?_
  rotate_left
  · intro w hSw
    first | (go_simp; done) | (go_simp; with_reducible rfl)
  try simp only [Act.put, List.getElem_toArray, List.getElem_cons_zero, List.getElem_cons_succ, List.setIfInBounds_toArray, List.set_cons_zero, List.set_cons_succ]
  refine wpAnyH_take (i := 6) (v := ?_) rfl (by kernel_rfl) (by kernel_rfl) (by kernel_rfl) (fun _ _ _ h => h) (Or.inl ⟨by kernel_rfl, ?_⟩) hHeld ?_
  rotate_left
  · intro w hSw
    first | (go_simp; done) | (go_simp; with_reducible rfl)
  try simp only [Act.put, List.getElem_toArray, List.getElem_cons_zero, List.getElem_cons_succ, List.setIfInBounds_toArray, List.set_cons_zero, List.set_cons_succ]
  refine wpAnyH_take (i := 7) (v := ?_) rfl (by kernel_rfl) (by kernel_rfl) (by kernel_rfl) (fun _ _ _ h => h) (Or.inl ⟨by kernel_rfl, ?_⟩) hHeld ?_
  rotate_left
  · intro w hSw
    first | (go_simp; done) | (go_simp; with_reducible rfl)
  try simp only [Act.put, List.getElem_toArray, List.getElem_cons_zero, List.getElem_cons_succ, List.setIfInBounds_toArray, List.set_cons_zero, List.set_cons_succ]
  refine wpAnyH_take (i := 8) (v := ?_) rfl (by kernel_rfl) (by kernel_rfl) (by kernel_rfl) (fun _ _ _ h => h) (Or.inl ⟨by kernel_rfl, ?_⟩) hHeld ?_
  rotate_left
  · intro w hSw
    have d3 := (Hp.blk hSw).cell (i := 3) rfl
    first | (go_simp; done) | (go_simp; with_reducible rfl)
  try simp only [Act.put, List.getElem_toArray, List.getElem_cons_zero, List.getElem_cons_succ, List.setIfInBounds_toArray, List.set_cons_zero, List.set_cons_succ]
  refine wpAnyH_ready (rs := [4]) (by kernel_rfl) (by simp) ?_
  refine AllReadyH.cons rfl (fun K hK => ?_) AllReadyH.nil
  go_simp
  go_simp
  refine hK.out _ _ (hHeld.alloc _) (fun hHeld => ?_)
  clear hK K
  try simp only [Act.put, List.getElem_toArray, List.getElem_cons_zero, List.getElem_cons_succ, List.setIfInBounds_toArray, List.set_cons_zero, List.set_cons_succ]
  refine wpAnyH_ready (rs := [9]) (by kernel_rfl) (by simp) ?_
  refine AllReadyH.cons rfl (fun K hK => ?_) AllReadyH.nil
  refine step_add (.tmp 9) (.tmp 13) 31 2 .i64 0 8 rfl rfl Try.underlying31 info_i64 _ _ [] tail rfl rfl S0.out S1.out (by have := TL.out; simp; omega) (by have := TL.out; simp; omega) ?_
  intro v2 w2 hp0
  have hp : Added ((w.drew).alloc (.cells #[] 2)) w2 2 .i64 (.slice (some ⟨w.drew.heap.size, 0, none⟩) 0 0) v2 ([] ++ tail) ((w.drew).alloc (.cells #[] 2)).heap.size := hp0
  clear hp0
  have bf := added_fresh hp
  have sl1 := hp.sl
  rw [List.nil_append] at sl1
  have h1 := HH.out.drew.add_sl bf.1 sl1 bf.2
  obtain ⟨A2, c2, rfl, _⟩ := h1.sl.form
  have H1 := Lib.hid h1
  clear hp bf sl1 h1 S0 S1
  refine hK.out _ _ (H1.out.drop) (fun hHeld => ?_)
  clear hK K
  try simp only [Act.put, List.getElem_toArray, List.getElem_cons_zero, List.getElem_cons_succ, List.setIfInBounds_toArray, List.set_cons_zero, List.set_cons_succ]
  refine wpAnyH_take (i := 10) (v := ?_) rfl (by kernel_rfl) (by kernel_rfl) (by kernel_rfl) (fun _ _ _ h => h) (Or.inl ⟨by kernel_rfl, ?_⟩) hHeld ?_
  rotate_left
  · intro w hSw
    first | (go_simp; done) | (go_simp; with_reducible rfl)
  try simp only [Act.put, List.getElem_toArray, List.getElem_cons_zero, List.getElem_cons_succ, List.setIfInBounds_toArray, List.set_cons_zero, List.set_cons_succ]
  refine wpAnyH_ready (rs := [11]) (by kernel_rfl) (by simp) ?_
  refine AllReadyH.cons rfl (fun K hK => ?_) AllReadyH.nil
  go_simp
  go_simp
  refine hK.out _ _ (hHeld.alloc _) (fun hHeld => ?_)
  clear hK K
  try simp only [Act.put, List.getElem_toArray, List.getElem_cons_zero, List.getElem_cons_succ, List.setIfInBounds_toArray, List.set_cons_zero, List.set_cons_succ]
  refine wpAnyH_take (i := 12) (v := ?_) rfl (by kernel_rfl) (by kernel_rfl) (by kernel_rfl) (fun _ _ _ h => h) (Or.inl ⟨by kernel_rfl, ?_⟩) hHeld ?_
  rotate_left
  · intro w hSw
    first | (go_simp; done) | (go_simp; with_reducible rfl)
  try simp only [Act.put, List.getElem_toArray, List.getElem_cons_zero, List.getElem_cons_succ, List.setIfInBounds_toArray, List.set_cons_zero, List.set_cons_succ]
  refine wpAnyH_done (by kernel_rfl) ?_ _
  refine NoPanic.normal ?_
  have H2 : Hid (Hp W (w2.alloc (.cells #[.pointer (some ⟨c, 0, none⟩), .pointer (some ⟨lo, 0, none⟩), .pointer (some ⟨br, 0, none⟩), .slice A2 tail.length c2] 90)) (synA w2.heap.size c lo br (.slice A2 tail.length c2) :: slA 2 .i64 (.slice A2 tail.length c2) tail :: synA s c lo br (.slice Av tail.length cv) :: slA 2 .i64 (.slice Av tail.length cv) tail :: l)) := Lib.hid (H1.out.new_blk 90 #[.pointer (some ⟨c, 0, none⟩), .pointer (some ⟨lo, 0, none⟩), .pointer (some ⟨br, 0, none⟩), .slice A2 tail.length c2])
  clear hHeld
  go_wp2_with fail
  go_ret
  exact ⟨_, _, rfl, H2.out⟩
end Go.Proofs.Ytngldpeapcbbpaa.Lap
