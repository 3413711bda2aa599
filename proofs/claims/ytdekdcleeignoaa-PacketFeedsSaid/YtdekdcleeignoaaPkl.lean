/-
  Packets: lives; what is parsed is what the document parses. No condition but those told.
-/
import Derived.Test.YtdekdcleeignoaaPky
set_option linter.unusedVariables false
set_option linter.unusedSimpArgs false
namespace Go.Proofs.Ytdekdcleeignoaa.Pk
open Go.RowKit Go.Proofs.Ytdekdcleeignoaa Go.Proofs.YtdekdcleeignoaaW.PrintWords
theorem Lies.of_src {w : World} {A : Option Addr} {n c : Nat} {xs : List Int} (h : Src w .u8 (.slice A n c) xs) : Lies w A xs := by
  obtain ⟨A', c', hv, hs⟩ := h
  injection hv with e1 e2 e3
  subst e1
  rcases Nat.eq_zero_or_pos xs.length with h0 | h0
  · exact .inl (List.eq_nil_of_length_eq_zero h0)
  · obtain ⟨ad, rfl, hc⟩ := hs h0
    obtain ⟨g, off, sp⟩ := ad
    have h1 := hc 0 h0
    have hsp : sp = none := by
      cases sp with
      | none => rfl
      | some q =>
        rw [show (Addr.add ⟨g, off, some q⟩ 0) = ⟨g, off, some q⟩ from rfl] at h1
        unfold World.cell? at h1
        split at h1 <;> simp at h1
    subst hsp
    refine .inr ⟨g, off, rfl, fun j hj => ?_⟩
    have h2 := hc j hj
    unfold Addr.add at h2
    split at h2
    · rename_i h3; subst h3; exact h2
    · exact h2
theorem Lies.row {w : World} {e : TypeId} {g cap : Nat} {xs : List Int} (h : RowI w e .u8 g cap xs) : Lies w (some ⟨g, 0, none⟩) xs := .inr ⟨g, 0, rfl, fun j hj => by rw [Nat.zero_add]; exact h.cell hj⟩
theorem RowI.fits {w : World} {e : TypeId} {k : IntKind} {g cap : Nat} {xs : List Int} (h : RowI w e k g cap xs) : xs.length ≤ cap := by obtain ⟨cs, _, h1, _⟩ := h; exact h1
set_option maxHeartbeats 1000000 in
theorem lives_h (w : World) : Calls Try.prog 6 #[] w fun e w' => e = .returned (.bool true) ∧ Below w.heap.size w w' := by
  have ok : (P.mk 7 0 false []).Ok := ⟨⟨by decide, by decide⟩, ⟨by decide, by decide⟩, fun x hx => by cases hx⟩
  have B : Hid (Calls Try.prog 7 #[.agg #[.int .u32 7, .int .u32 0, .bool false, .slice none 0 0]] w fun e w' => ∃ v, e = .returned (.tuple #[v, .int .i64 0]) ∧ Hp w w' (slA 5 .u8 v (bts ⟨7, 0, false, []⟩) :: [])) := Lib.hid (Bytes_h (Hp.nil w) 7 0 false [] ok Rd.nil (by decide))
  have bl : Hid ((bts ⟨7, 0, false, []⟩).length = 17) := Lib.hid (bts_len _)
  have bb : Hid (Bytes (bts ⟨7, 0, false, []⟩)) := Lib.hid (bts_bytes (fun x hx => by cases hx))
  have pb : Hid (parse (bts ⟨7, 0, false, []⟩) = (some ⟨7, 0, false, []⟩, 17, 0)) := Lib.hid (by
    have h := parse_bts ok (by decide) [] (fun x hx => by cases hx)
    rw [List.append_nil] at h
    exact h)
  generalize bts ⟨7, 0, false, []⟩ = xs at B bl bb pb
  go_enter Try.func6, Try.ntmps6
  go_wp2_with fail
  refine B.out.mono ?_
  rintro e1 w1 ⟨v, rfl, h1⟩
  obtain ⟨g, c, rfl, r⟩ := Sl_some h1.sl (by rw [bl.out]; decide)
  have PA := Lib.hid (Parse_h (c := c) (Lies.row r) bl.out bb.out (by decide) (by have := RowI.fits r; rw [bl.out] at this; exact this))
  have H1 := Lib.hid h1.b
  rw [bl.out]
  clear h1 r B
  go_wp2_with fail
  refine PA.out.mono ?_
  intro e2 w2 hp
  unfold PPost at hp
  rcases hp with ⟨p, n, v, h, rfl, hh⟩ | ⟨er, h, _⟩
  · rw [pb.out] at h
    injection h with h1 h2
    injection h2 with h2 h3
    injection h1 with h1
    subst h1 h2
    obtain ⟨vA, vn, vm, hv⟩ := hh.sl.shape
    subst hv
    have H2 := Lib.hid (H1.out.trans (hh.b.mono H1.out.size))
    clear hh PA
    simp only [pcells]
    go_wp2_with fail
    go_ret
    exact ⟨rfl, H2.out.alloc H2.out.size _⟩
  · rw [pb.out] at h
    cases h
theorem slA_ge {W w : World} {l : List Ast} {t : TypeId} {k : IntKind} {v : Value} {xs : List Int} (h : Hp W w (slA t k v xs :: l)) : ∀ g, v.ownBlock = some g → W.heap.size ≤ g := fun g hg => by
  obtain ⟨F, h1, h2, _⟩ := h.open1
  obtain ⟨_, rfl⟩ := h1
  exact (h2 g hg).1
theorem PPost.flat {w w' : World} {b : List Int} {e : Ending} (h : PPost w b e w') : ∃ A m c, e = .returned (.tuple #[.agg (pcells ((parse b).1.getD ⟨0, 0, false, []⟩) (.slice A m c)), .int .i64 (parse b).2.1, .int .i64 (parse b).2.2]) ∧ Hp w w' [slA 5 .u8 (.slice A m c) ((parse b).1.getD ⟨0, 0, false, []⟩).pay] := by
  unfold PPost at h
  rcases h with ⟨p, n, v, h, rfl, hh⟩ | ⟨er, h, rfl, hb⟩
  · obtain ⟨A, m, c, hv⟩ := hh.sl.shape
    subst hv
    rw [h]
    exact ⟨A, m, c, rfl, hh⟩
  · rw [h]
    exact ⟨none, 0, 0, rfl, ((Hp.nil w).keep hb).add_sl (Below.refl _ _) (Sl.nil w' 5 .u8) (fun g hg => by cases hg)⟩
theorem RPost.flat {w w' : World} {A0 : Option Addr} {b : List Int} {e : Ending} (h : RPost w A0 b e w') : ∃ A m c, e = .returned (.tuple #[.agg (pcells ((parse b).1.getD ⟨0, 0, false, []⟩) (.slice A m c)), .int .i64 (parse b).2.1, .int .i64 (parse b).2.2]) ∧ (∀ w0, Lies w0 A0 b → Src w0 .u8 (.slice A m c) ((parse b).1.getD ⟨0, 0, false, []⟩).pay) ∧ Below w.heap.size w w' := by
  unfold RPost at h
  rcases h with ⟨p, n, A, m, c, h, rfl, hs, hb⟩ | ⟨er, h, rfl, hb⟩
  · rw [h]
    exact ⟨A, m, c, rfl, hs, hb⟩
  · rw [h]
    exact ⟨none, 0, 0, rfl, fun w0 _ => ⟨none, 0, rfl, fun h => by simp at h⟩, hb⟩
theorem u8_bd {W : World} {a : Option Addr} {n c : Nat} {zs : List Int} (h : IsRow .u8 W a n c zs) : Bytes (zs.take n) := fun x hx => by
  rcases h with ⟨_, _, _, rfl⟩ | ⟨_, _, _, _, _, _, hw⟩
  · simp at hx
  · have h1 := hw x (List.mem_of_mem_take hx)
    simp only [Lit.wf, Bool.and_eq_true, decide_eq_true_eq] at h1
    have e1 : IntKind.min .u8 = 0 := by decide
    have e2 : IntKind.max .u8 = 255 := by decide
    rw [e1, e2] at h1
    omega
theorem row_fits {W : World} {a : Option Addr} {n c : Nat} {zs : List Int} (h : IsRow .u8 W a n c zs) : n ≤ c := by
  rcases h with ⟨_, rfl, rfl, _⟩ | ⟨_, _, h1, _⟩
  · exact Nat.le_refl _
  · exact h1
theorem added_row {w w1 : World} {o : Obj} {e : TypeId} {k : IntKind} {v1 : Value} {ys : List Int} (h : Added (w.alloc o) w1 e k (.slice (some ⟨w.heap.size, 0, none⟩) 0 0) v1 ys (w.alloc o).heap.size) (s : Sl w1 e k v1 ys) : ∃ g cap, v1 = .slice (some ⟨g, 0, none⟩) ys.length cap ∧ RowI w1 e k g cap ys := by
  rcases s with ⟨rfl, _⟩ | h1
  · rcases h.at_ with h1 | h1 <;> cases h1
  · exact h1
set_option maxHeartbeats 1000000 in
theorem parses_law (a0 : Option Addr) (len0 cap0 : Nat) (z0 : List Int) (W : World) (h0 : IsRow .u8 W a0 len0 cap0 z0) (y0 : len0 * 1 ≤ 140737488351232) :
    Calls Try.prog 4 #[.slice a0 len0 cap0] W fun e w' => e = .returned (.bool true) ∧ Below W.heap.size W w' := by
  by_cases hs : 1500 < len0
  · have k1 : decide ((1500 : Int) < (len0 : Int)) = true := decide_eq_true (by omega)
    go_enter Try.func4, Try.ntmps4
    go_wp2_with fail
    refine (lives_h _).mono ?_
    rintro e1 w1 ⟨rfl, b1⟩
    have H1 : Hid (Hp W w1 []) := Lib.hid ((Hp.nil W).keep b1)
    clear b1
    go_wp2_with fail
    refine (lives_h _).mono ?_
    rintro e2 w2 ⟨rfl, b2⟩
    have H2 := Lib.hid (H1.out.keep b2)
    clear b2
    go_wp2_with fail
    go_ret
    exact ⟨rfl, H2.out.b⟩
  have k1 : decide ((1500 : Int) < (len0 : Int)) = false := decide_eq_false (by omega)
  have RD := Lib.hid h0.src
  have LN := Lib.hid h0.take_len
  have BY := Lib.hid (u8_bd h0)
  have FT := Lib.hid (row_fits h0)
  have SM := Lib.hid hs
  clear h0 y0 hs
  generalize z0.take len0 = xs at *
  obtain ⟨p, hp⟩ : ∃ p, (parse xs).1.getD ⟨0, 0, false, []⟩ = p := ⟨_, rfl⟩
  obtain ⟨n, hn⟩ : ∃ n, (parse xs).2.1 = n := ⟨_, rfl⟩
  obtain ⟨er, her⟩ : ∃ er, (parse xs).2.2 = er := ⟨_, rfl⟩
  have PP := Lib.hid (fun w w' e => @PPost.flat w w' xs e)
  have RP := Lib.hid (fun w w' e => @RPost.flat w w' a0 xs e)
  rw [hp, hn, her] at PP RP
  clear hp hn her
  go_enter Try.func4, Try.ntmps4
  go_wp2_with fail
  refine (lives_h _).mono ?_
  rintro e1 w1 ⟨rfl, b1⟩
  have H1 : Hid (Hp W w1 []) := Lib.hid ((Hp.nil W).keep b1)
  have S0 := Lib.hid (Sl_empty w1 5 .u8)
  have S1 := Lib.hid (Src.below RD.out (b1.alloc b1.size (.cells #[] 5)))
  clear b1
  go_wp2_with (at_builtin; refine wpList_add (.tmp 19) (.tmp 20) 23 5 .u8 0 1 rfl rfl Try.underlying23 info_u8 _ _ [] xs rfl rfl S0.out S1.out (by rw [LN.out]; have := SM.out; simp; omega) (by rw [LN.out]; have := SM.out; simp; omega) ?_
               intro v1 w2 hp
               have bf := added_fresh hp
               have sl1 := hp.sl
               rw [List.nil_append] at sl1 hp
               have h1 := H1.out.add_sl bf.1 sl1 bf.2
               obtain ⟨g, c1, rfl, r1⟩ := added_row hp sl1
               have H2 := Lib.hid h1
               have R1 := Lib.hid r1
               clear hp bf sl1 h1 S0 S1 r1
               rw [LN.out] at H2 ⊢)
  refine (Parse_h (c := c1) (Lies.row R1.out) LN.out BY.out (by have := SM.out; omega) (by have := RowI.fits R1.out; rw [LN.out] at this; exact this)).mono ?_
  intro e3 w3 hp
  obtain ⟨A, m, c, rfl, hh⟩ := PP.out _ _ _ hp
  have H3 := Lib.hid (H2.out.add_sl hh.b hh.sl (slA_ge hh))
  clear hp hh PP
  have hB : Hid (∀ w', Below W.heap.size W w' → Calls Try.prog 12 #[.slice a0 len0 cap0] w' fun e w'' => RPost w' a0 xs e w'') := Lib.hid (fun w' hw => rParse_h (Lies.of_src (Src.below RD.out hw)) LN.out BY.out (by have := SM.out; omega) FT.out)
  simp only [pcells]
  obtain ⟨gq, hgq⟩ : ∃ gq, w3.heap.size = gq := ⟨_, rfl⟩
  have h4 := H3.out.new_blk 25 #[.int .u32 p.ep, .int .u32 p.nu, .bool p.wh, .slice A m c]
  rw [hgq] at h4
  have H4 := Lib.hid h4
  clear h4
  go_wp2_with fail
  refine (hB.out _ H4.out.b).mono ?_
  intro e5 w5 hp
  obtain ⟨A2, m2, c2, rfl, hs2, hb2⟩ := RP.out _ _ _ hp
  have SS := Lib.hid (hs2 W (Lies.of_src RD.out))
  have H5 := Lib.hid (H4.out.keep hb2)
  clear hp hs2 hb2 RP hB
  simp only [pcells]
  obtain ⟨gr, hgr⟩ : ∃ gr, w5.heap.size = gr := ⟨_, rfl⟩
  have h6 := H5.out.new_blk 33 #[.int .u32 p.ep, .int .u32 p.nu, .bool p.wh, .slice A2 m2 c2]
  rw [hgr] at h6
  have H6 := Lib.hid (h6.pk [3, 2, 1, 0])
  clear h6
  go_wp2_with fail
  go_loopw [36] (fun u wr => ∃ k : Nat, k ≤ len0 ∧ u = .int .i64 (k : Int) ∧ Hid (∃ ys, ys.length = len0 ∧ Hp W wr [slA 5 .u8 (.slice (some ⟨g, 0, none⟩) len0 c1) ys, slA 5 .u8 (.slice A m c) p.pay, blkA gq 25 #[.int .u32 p.ep, .int .u32 p.nu, .bool p.wh, .slice A m c], blkA gr 33 #[.int .u32 p.ep, .int .u32 p.nu, .bool p.wh, .slice A2 m2 c2]])) (fun u _ => len0 - (intOf u).toNat)
  case atStart => exact ⟨0, by omega, rfl, Lib.hid ⟨xs, LN.out, H6.out⟩⟩
  case round =>
    clear H6
    obtain ⟨k, hk, rfl, EE⟩ := hrel
    obtain ⟨ys, hl, h⟩ := EE.out
    have HH := Lib.hid h
    have HL := Lib.hid hl
    clear h hl
    by_cases hlt : k < len0
    · obtain ⟨g', c', hv, r⟩ := Sl_some HH.out.sl (by rw [HL.out]; omega)
      have hg : g = g' ∧ c1 = c' := by
        injection hv with h1 h2 h3
        injection h1 with h1
        injection h1 with h1
        exact ⟨h1, h3⟩
      obtain ⟨rfl, rfl⟩ := hg
      have hR := Lib.hid (HH.out.say (A' := rowA 5 .u8 g c1 ys) (fun F hF => ⟨r, by rw [hF.2]; funext i; simp [Value.ownBlock, eq_comm]⟩))
      have fr := fun i => r.free i
      have kl : k < ys.length := by rw [HL.out]; exact hlt
      have cx := r.cell (i := k) kl
      generalize ys[k]'kl = y at cx
      clear kl
      have ki : (k : Int) < (len0 : Int) := by omega
      have dk : decide ((k : Int) < (len0 : Int)) = true := decide_eq_true ki
      have sm : len0 ≤ 1500 := by have := SM.out; omega
      clear hv r HH EE
      go_wp2_with fail
      go_roundw
      case rel => exact ⟨k + 1, by omega, by go_num, Lib.hid ⟨_, by rw [List.length_set, HL.out], (hR.out.set k _).row_sl (n := len0) (by rw [List.length_set, HL.out])⟩⟩
      case measure => simp [intOf]; omega
    · obtain rfl : k = len0 := by omega
      have q0 := HH.out.drop.drop.blk.cell (i := 0) rfl
      have q1 := HH.out.drop.drop.blk.cell (i := 1) rfl
      have q2 := HH.out.drop.drop.blk.cell (i := 2) rfl
      have q3 := HH.out.drop.drop.blk.cell (i := 3) rfl
      have r0 := HH.out.drop.drop.drop.blk.cell (i := 0) rfl
      have r1 := HH.out.drop.drop.drop.blk.cell (i := 1) rfl
      have r2 := HH.out.drop.drop.drop.blk.cell (i := 2) rfl
      have r3 := HH.out.drop.drop.drop.blk.cell (i := 3) rfl
      have SH := Lib.hid (same_h p (Src.of_sl HH.out.drop.sl) (Src.below SS.out HH.out.b))
      simp only [pcells] at SH
      have dk : decide ((k : Int) < (k : Int)) = false := decide_eq_false (by omega)
      go_wp2_with fail
      refine SH.out.mono ?_
      rintro e8 w8 ⟨rfl, b8⟩
      have H8 := Lib.hid (HH.out.keep b8)
      clear b8
      go_wp2_with fail
      go_ret
      exact ⟨rfl, H8.out.b⟩
end Go.Proofs.Ytdekdcleeignoaa.Pk
