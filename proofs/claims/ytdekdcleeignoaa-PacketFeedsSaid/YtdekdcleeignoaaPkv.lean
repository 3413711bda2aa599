/-
  Packets: a packet's bytes, on both sides; walks. No condition but those told.
-/
import Derived.Test.YtdekdcleeignoaaPkw
set_option linter.unusedVariables false
set_option linter.unusedSimpArgs false
namespace Go.Proofs.Ytdekdcleeignoaa.Pk
open Go.RowKit Go.Proofs.Ytdekdcleeignoaa Go.Proofs.YtdekdcleeignoaaW.PrintWords

theorem _root_.Go.Proofs.Ytdekdcleeignoaa.Hp.added {W w w' : World} {l : List Ast} {t : TypeId} {k : IntKind} {v v' : Value} {xs ys : List Int} {H : Nat} (h : Hp W w (slA t k v xs :: l)) (a : Added w w' t k v v' ys H) (hH : w.heap.size ≤ H) : Hp W w' (slA t k v' ys :: l) :=
  h.turn fun F ⟨h1, h2⟩ => ⟨by subst h2; exact a.only, _, ⟨a.sl, rfl⟩, fun i e => by
    subst h2
    rcases a.at_ with hv | hv
    · left; show v.ownBlock = some i; rw [← hv]; exact e
    · right
      have : some i = some H := by rw [← hv]; exact e.symm
      injection this with this
      omega⟩
theorem _root_.Go.Proofs.Ytdekdcleeignoaa.Hp.blk_row {W w : World} {l : List Ast} {t : TypeId} {k : IntKind} {g : Nat} {xs : List Int} (h : Hp W w (blkA g t (xs.map (Value.int k)).toArray :: l)) (hm : xs.length ≤ maxLen) : Hp W w (rowA t k g xs.length xs :: l) :=
  h.say fun F ⟨h1, h2⟩ => ⟨RowI.of_whole h1 hm, h2⟩
theorem Sl_some {w : World} {e : TypeId} {k : IntKind} {v : Value} {xs : List Int} (h : Sl w e k v xs) (hn : 0 < xs.length) : ∃ g cap, v = .slice (some ⟨g, 0, none⟩) xs.length cap ∧ RowI w e k g cap xs := by
  rcases h with ⟨rfl, rfl⟩ | ⟨g, cap, rfl, h⟩
  · simp at hn
  · exact ⟨g, cap, rfl, h⟩
def hd3 (b : Bool) : List Int := [83, 66, if b then 1 else 0]
theorem hd3_set : [83, 66, (0 : Int)].set 2 1 = hd3 true := rfl
theorem Bytes_long {w : World} {A : Option Addr} {n c : Nat} (x y : Int) (b : Bool) (hn : 600 < n) :
    Calls Try.prog 7 #[.agg #[.int .u32 x, .int .u32 y, .bool b, .slice A n c]] w fun e w' => e = .returned (.tuple #[.slice none 0 0, .int .i64 5]) ∧ Below w.heap.size w w' := by
  have k1 : decide ((600 : Int) < (n : Int)) = true := decide_eq_true (by omega)
  have k2 : (600 : Int) < (n : Int) := by omega
  go_enter Try.func7, Try.ntmps7
  go_wp2_with fail
  go_ret2
  exact ⟨rfl, (Below.refl _ _).alloc (Nat.le_refl _) _⟩
set_option maxHeartbeats 2000000 in
set_option maxRecDepth 100000 in
theorem Bytes_h {W w : World} {l : List Ast} (H : Hp W w l) (ep nu : Int) (wh : Bool) (pay : List Int) (ok : (P.mk ep nu wh pay).Ok) {A : Option Addr} {c : Nat} (rd : Rd W l .u8 (.slice A pay.length c) pay) (hl : pay.length ≤ 600) :
    Calls Try.prog 7 #[.agg #[.int .u32 ep, .int .u32 nu, .bool wh, .slice A pay.length c]] w fun e w' => ∃ v, e = .returned (.tuple #[v, .int .i64 0]) ∧ Hp W w' (slA 5 .u8 v (bts ⟨ep, nu, wh, pay⟩) :: l) := by
  have RD := Lib.hid rd
  have OK := Lib.hid ok
  have k1 : decide ((600 : Int) < (pay.length : Int)) = false := decide_eq_false (by omega)
  have k2 : ¬ (600 : Int) < (pay.length : Int) := by omega
  obtain ⟨gb, hgb⟩ : ∃ gb, w.heap.size = gb := ⟨_, rfl⟩
  have H0 := Lib.hid (H.new_blk 25 #[.int .u32 ep, .int .u32 nu, .bool wh, .slice A pay.length c])
  rw [hgb] at H0
  have c0 := H0.out.blk.cell (i := 0) rfl
  have c1 := H0.out.blk.cell (i := 1) rfl
  have c2 := H0.out.blk.cell (i := 2) rfl
  have c3 := H0.out.blk.cell (i := 3) rfl
  have h1 := ((H0.out.new_blk 5 (([83, 66, 0] : List Int).map (Value.int .u8)).toArray).blk_row (by decide)).row_sl (n := 3) rfl
  have hz : (w.alloc (.cells #[.int .u32 ep, .int .u32 nu, .bool wh, .slice A pay.length c] 25)).heap.size = gb + 1 := by rw [World.size_alloc, hgb]
  rw [hz] at h1
  have H1 := Lib.hid h1
  have h2 := (H0.out.new_blk 5 (([83, 66, 0] : List Int).map (Value.int .u8)).toArray).blk_row (by decide)
  rw [hz] at h2
  have H2 := Lib.hid h2
  have h3 := ((H0.out.new_blk 5 (([83, 66, 1] : List Int).map (Value.int .u8)).toArray).blk_row (by decide)).row_sl (n := 3) rfl
  rw [hz] at h3
  have H3 := Lib.hid h3
  have e1 : (pay.length : Int) % 4294967296 = pay.length := by omega
  have e2 : IntKind.u32.wrap (pay.length : Int) = pay.length := by rw [IntKind.wrap_u32]; exact e1
  clear H rd ok h1 h2 h3 hz
  go_enter Try.func7, Try.ntmps7
  go_upto_if 11 with (fail)
  go_cut [4] (fun u wc => Hid (Hp W wc (slA 5 .u8 u (hd3 wh) :: blkA gb 25 #[.int .u32 ep, .int .u32 nu, .bool wh, .slice A pay.length c] :: l)))
  case first =>
    cases wh
    · go_wp2_with fail
      go_meet
      exact H1
    · have fr := H2.out.row.free 2
      have fc := H2.out.row.cell (i := 2) (by decide)
      go_wp2_with fail
      go_meet
      exact H3
  case rest =>
    clear H0 H1 H2 H3 c0 c1 c2 c3
    have H := hcut
    clear hcut
    go_wp2_with fail
    refine wp_region_noPanic ?_
    refine wp_region_any (by kernel_rfl) ?_
    try (change wpAny _ _ _ _ _ _ _ (World.drew _))
    refine wpAny_of_held (S := fun w5 => Hp W w5 (blkA gb 25 #[.int .u32 ep, .int .u32 nu, .bool wh, .slice A pay.length c] :: l)) _ _ _ _ ?_
    have hHeld := H.out.drew.drop
    refine wpAnyH_take (i := 0) (v := ?_) rfl (by kernel_rfl) (by kernel_rfl) (by kernel_rfl) (fun _ _ _ h => h) (Or.inl ⟨by kernel_rfl, ?_⟩) hHeld ?_
    rotate_left
    · intro w hSw
      first | (go_simp; done) | (go_simp; with_reducible rfl)
    try simp only [Act.put, List.getElem_toArray, List.getElem_cons_zero, List.getElem_cons_succ, List.setIfInBounds_toArray, List.set_cons_zero, List.set_cons_succ]
    refine wpAnyH_take (i := 1) (v := ?_) rfl (by kernel_rfl) (by kernel_rfl) (by kernel_rfl) (fun _ _ _ h => h) (Or.inl ⟨by kernel_rfl, ?_⟩) hHeld ?_
    rotate_left
    · intro w hSw
      first | (go_simp; done) | (go_simp; with_reducible rfl)
    try simp only [Act.put, List.getElem_toArray, List.getElem_cons_zero, List.getElem_cons_succ, List.setIfInBounds_toArray, List.set_cons_zero, List.set_cons_succ]
    refine wpAnyH_take (i := 2) (v := ?_) rfl (by kernel_rfl) (by kernel_rfl) (by kernel_rfl) (fun _ _ _ h => h) (Or.inl ⟨by kernel_rfl, ?_⟩) hHeld ?_
    rotate_left
    · intro w hSw
      have d0 := (Hp.blk hSw).cell (i := 0) rfl
      have d1 := (Hp.blk hSw).cell (i := 1) rfl
      have d2 := (Hp.blk hSw).cell (i := 2) rfl
      have d3 := (Hp.blk hSw).cell (i := 3) rfl
      first | (go_simp; done) | (go_simp; with_reducible rfl)
    try simp only [Act.put, List.getElem_toArray, List.getElem_cons_zero, List.getElem_cons_succ, List.setIfInBounds_toArray, List.set_cons_zero, List.set_cons_succ]
    refine wpAnyH_take (i := 4) (v := ?_) rfl (by kernel_rfl) (by kernel_rfl) (by kernel_rfl) (fun _ _ _ h => h) (Or.inl ⟨by kernel_rfl, ?_⟩) hHeld ?_
    rotate_left
    · intro w hSw
      first | (go_simp; done) | (go_simp; with_reducible rfl)
    try simp only [Act.put, List.getElem_toArray, List.getElem_cons_zero, List.getElem_cons_succ, List.setIfInBounds_toArray, List.set_cons_zero, List.set_cons_succ]
    refine wpAnyH_take (i := 5) (v := ?_) rfl (by kernel_rfl) (by kernel_rfl) (by kernel_rfl) (fun _ _ _ h => h) (Or.inl ⟨by kernel_rfl, ?_⟩) hHeld ?_
    rotate_left
    · intro w hSw
      have d0 := (Hp.blk hSw).cell (i := 0) rfl
      have d1 := (Hp.blk hSw).cell (i := 1) rfl
      have d2 := (Hp.blk hSw).cell (i := 2) rfl
      have d3 := (Hp.blk hSw).cell (i := 3) rfl
      first | (go_simp; done) | (go_simp; with_reducible rfl)
    try simp only [Act.put, List.getElem_toArray, List.getElem_cons_zero, List.getElem_cons_succ, List.setIfInBounds_toArray, List.set_cons_zero, List.set_cons_succ]
    refine wpAnyH_take (i := 7) (v := ?_) rfl (by kernel_rfl) (by kernel_rfl) (by kernel_rfl) (fun _ _ _ h => h) (Or.inl ⟨by kernel_rfl, ?_⟩) hHeld ?_
    rotate_left
    · intro w hSw
      first | (go_simp; done) | (go_simp; with_reducible rfl)
    try simp only [Act.put, List.getElem_toArray, List.getElem_cons_zero, List.getElem_cons_succ, List.setIfInBounds_toArray, List.set_cons_zero, List.set_cons_succ]
    refine wpAnyH_take (i := 8) (v := ?_) rfl (by kernel_rfl) (by kernel_rfl) (by kernel_rfl) (fun _ _ _ h => h) (Or.inl ⟨by kernel_rfl, ?_⟩) hHeld ?_
    rotate_left
    · intro w hSw
      have d0 := (Hp.blk hSw).cell (i := 0) rfl
      have d1 := (Hp.blk hSw).cell (i := 1) rfl
      have d2 := (Hp.blk hSw).cell (i := 2) rfl
      have d3 := (Hp.blk hSw).cell (i := 3) rfl
      first | (go_simp; done) | (go_simp; with_reducible rfl)
    try simp only [Act.put, List.getElem_toArray, List.getElem_cons_zero, List.getElem_cons_succ, List.setIfInBounds_toArray, List.set_cons_zero, List.set_cons_succ]
    refine wpAnyH_take (i := 9) (v := ?_) rfl (by kernel_rfl) (by kernel_rfl) (by kernel_rfl) (fun _ _ _ h => h) (Or.inl ⟨by kernel_rfl, ?_⟩) hHeld ?_
    rotate_left
    · intro w hSw
      first | (go_simp; done) | (go_simp; with_reducible rfl)
    try simp only [Act.put, List.getElem_toArray, List.getElem_cons_zero, List.getElem_cons_succ, List.setIfInBounds_toArray, List.set_cons_zero, List.set_cons_succ]
    refine wpAnyH_take (i := 10) (v := ?_) rfl (by kernel_rfl) (by kernel_rfl) (by kernel_rfl) (fun _ _ _ h => h) (Or.inl ⟨by kernel_rfl, ?_⟩) hHeld ?_
    rotate_left
    · intro w hSw
      first | (go_simp; done) | (go_simp; with_reducible rfl)
    try simp only [Act.put, List.getElem_toArray, List.getElem_cons_zero, List.getElem_cons_succ, List.setIfInBounds_toArray, List.set_cons_zero, List.set_cons_succ]
    refine wpAnyH_ready (rs := [3]) (by kernel_rfl) (by simp) ?_
    refine AllReadyH.cons rfl (fun K hK => ?_) AllReadyH.nil
    go_simp
    go_at_call 17
    refine (put_h H.out.drew (by simp [leN_len, hd3]) ep OK.out.1 4 (by decide)).mono ?_
    rintro e8 w8 ⟨v4, rfl, h1⟩
    have H4 := Lib.hid h1
    clear h1
    go_simp
    refine hK.out _ _ (H4.out.drop) (fun hHeld => ?_)
    clear hK K
    try simp only [Act.put, List.getElem_toArray, List.getElem_cons_zero, List.getElem_cons_succ, List.setIfInBounds_toArray, List.set_cons_zero, List.set_cons_succ]
    refine wpAnyH_ready (rs := [6]) (by kernel_rfl) (by simp) ?_
    refine AllReadyH.cons rfl (fun K hK => ?_) AllReadyH.nil
    go_simp
    go_at_call 17
    refine (put_h H4.out (by simp [leN_len, hd3]) nu OK.out.2.1 4 (by decide)).mono ?_
    rintro e8 w8 ⟨v5, rfl, h1⟩
    have H5 := Lib.hid h1
    clear h1
    go_simp
    refine hK.out _ _ (H5.out.drop) (fun hHeld => ?_)
    clear hK K
    try simp only [Act.put, List.getElem_toArray, List.getElem_cons_zero, List.getElem_cons_succ, List.setIfInBounds_toArray, List.set_cons_zero, List.set_cons_succ]
    refine wpAnyH_ready (rs := [11]) (by kernel_rfl) (by simp) ?_
    refine AllReadyH.cons rfl (fun K hK => ?_) AllReadyH.nil
    go_simp
    go_at_call 17
    refine (put_h H5.out (by simp [leN_len, hd3]) (pay.length : Int) ⟨by omega, by omega⟩ 2 (by decide)).mono ?_
    rintro e8 w8 ⟨v6, rfl, h1⟩
    have H6 := Lib.hid h1
    clear h1
    go_simp
    refine hK.out _ _ (H6.out.drop) (fun hHeld => ?_)
    clear hK K
    try simp only [Act.put, List.getElem_toArray, List.getElem_cons_zero, List.getElem_cons_succ, List.setIfInBounds_toArray, List.set_cons_zero, List.set_cons_succ]
    refine wpAnyH_take (i := 12) (v := ?_) rfl (by kernel_rfl) (by kernel_rfl) (by kernel_rfl) (fun _ _ _ h => h) (Or.inl ⟨by kernel_rfl, ?_⟩) hHeld ?_
    rotate_left
    · intro w hSw
      first | (go_simp; done) | (go_simp; with_reducible rfl)
    try simp only [Act.put, List.getElem_toArray, List.getElem_cons_zero, List.getElem_cons_succ, List.setIfInBounds_toArray, List.set_cons_zero, List.set_cons_succ]
    refine wpAnyH_done (by kernel_rfl) ?_ _
    refine NoPanic.normal ?_
    have hx : hd3 wh ++ leN ep 4 ++ leN nu 4 ++ leN (pay.length : Int) 2 ++ pay = pre ⟨ep, nu, wh, pay⟩ := rfl
    have hlen : (hd3 wh ++ leN ep 4 ++ leN nu 4 ++ leN (pay.length : Int) 2).length = 13 := by simp [hd3, leN_len]
    obtain ⟨X, hX⟩ : ∃ X, hd3 wh ++ leN ep 4 ++ leN nu 4 ++ leN (pay.length : Int) 2 = X := ⟨_, rfl⟩
    rw [hX] at hx hlen H6
    have HL := Lib.hid hlen
    have HXX := Lib.hid hx
    have d3 := hHeld.blk.cell (i := 3) rfl
    have S1 := Lib.hid (RD.out _ hHeld.drop)
    have PL := Lib.hid hl
    clear hHeld H H4 H5 hlen hx hX
    go_wp2_with (at_builtin; refine wpList_add (.tmp 26) (.tmp 28) 23 5 .u8 0 1 rfl rfl Try.underlying23 info_u8 v6 _ X pay rfl rfl H6.out.sl S1.out (by rw [HL.out]; have := PL.out; omega) (by rw [HL.out]; have := PL.out; omega) ?_
                 intro v7 w7 hp
                 have h7 := H6.out.added hp (Nat.le_refl _)
                 rw [HXX.out] at h7
                 obtain ⟨g7, c7, rfl, r7⟩ := Sl_some h7.sl (by rw [pre_len]; omega)
                 have H7 := Lib.hid h7
                 have R7 := Lib.hid r7
                 clear hp h7 r7)
    have PB := Lib.hid (pre_bytes OK.out.2.2)
    have PN : Hid ((pre ⟨ep, nu, wh, pay⟩).length = 13 + pay.length) := Lib.hid (pre_len _)
    have CB := Lib.hid (crc_bd (pre ⟨ep, nu, wh, pay⟩))
    have c7l := R7.out.len.1
    obtain ⟨X2, hX2⟩ : ∃ X2, pre ⟨ep, nu, wh, pay⟩ = X2 := ⟨_, rfl⟩
    have HB : Hid (bts ⟨ep, nu, wh, pay⟩ = X2 ++ leN (crcI X2) 4) := Lib.hid (by rw [← hX2]; rfl)
    rw [hX2] at H7 PB PN CB c7l
    rw [hX2]
    clear R7 hX2 d3 H6
    refine (Of_h (Src.of_sl H7.out.sl) PB.out (by rw [PN.out]; have := PL.out; omega) c7l).mono ?_
    rintro e8 w8 ⟨rfl, b8⟩
    have H8 := Lib.hid (H7.out.keep b8)
    clear b8 H7
    go_wp2_with fail
    refine (put_h H8.out (by rw [PN.out]; have := PL.out; omega) _ CB.out 4 (by decide)).mono ?_
    rintro e9 w9 ⟨v9, rfl, h9⟩
    rw [← HB.out] at h9
    have H9 := Lib.hid (h9.up1.drop)
    clear h9 H8
    go_wp2_with fail
    go_ret2
    exact ⟨_, rfl, H9.out⟩
set_option maxHeartbeats 2000000 in
set_option maxRecDepth 100000 in
theorem rBytes_h {W w : World} {l : List Ast} (H : Hp W w l) (ep nu : Int) (wh : Bool) (pay : List Int) (ok : (P.mk ep nu wh pay).Ok) {A : Option Addr} {c : Nat} (rd : Rd W l .u8 (.slice A pay.length c) pay) (hl : pay.length ≤ 65535) :
    Calls Try.prog 9 #[.agg #[.int .u32 ep, .int .u32 nu, .bool wh, .slice A pay.length c]] w fun e w' => ∃ v, e = .returned v ∧ Hp W w' (slA 5 .u8 v (bts ⟨ep, nu, wh, pay⟩) :: l) := by
  have RD := Lib.hid rd
  have OK := Lib.hid ok
  obtain ⟨gb, hgb⟩ : ∃ gb, w.heap.size = gb := ⟨_, rfl⟩
  have H0 := Lib.hid (H.new_blk 33 #[.int .u32 ep, .int .u32 nu, .bool wh, .slice A pay.length c])
  rw [hgb] at H0
  have c2 := H0.out.blk.cell (i := 2) rfl
  have hz : (w.alloc (.cells #[.int .u32 ep, .int .u32 nu, .bool wh, .slice A pay.length c] 33)).heap.size = gb + 1 := by rw [World.size_alloc, hgb]
  have h1 := ((H0.out.new_blk 5 (([83, 66, 0] : List Int).map (Value.int .u8)).toArray).blk_row (by decide)).row_sl (n := 3) rfl
  rw [hz] at h1
  have H1 := Lib.hid h1
  have h2 := (H0.out.new_blk 5 (([83, 66, 0] : List Int).map (Value.int .u8)).toArray).blk_row (by decide)
  rw [hz] at h2
  have H2 := Lib.hid h2
  have h3 := ((H0.out.new_blk 5 (([83, 66, 1] : List Int).map (Value.int .u8)).toArray).blk_row (by decide)).row_sl (n := 3) rfl
  rw [hz] at h3
  have H3 := Lib.hid h3
  have e1 : (pay.length : Int) % 4294967296 = pay.length := by omega
  have e2 : IntKind.u32.wrap (pay.length : Int) = pay.length := by rw [IntKind.wrap_u32]; exact e1
  clear H rd ok h1 h2 h3 hz
  go_enter Try.func9, Try.ntmps9
  go_upto_if 6 with (fail)
  go_cut [3] (fun u wc => Hid (Hp W wc (slA 5 .u8 u (hd3 wh) :: blkA gb 33 #[.int .u32 ep, .int .u32 nu, .bool wh, .slice A pay.length c] :: l)))
  case first =>
    cases wh
    · go_wp2_with fail
      go_meet
      exact H1
    · have fr := H2.out.row.free 2
      have fc := H2.out.row.cell (i := 2) (by decide)
      go_wp2_with fail
      go_meet
      exact H3
  case rest =>
    clear H0 H1 H2 H3 c2
    have H := hcut
    clear hcut
    have d0 := H.out.drop.blk.cell (i := 0) rfl
    go_wp2_with fail
    refine (Number_h H.out ep OK.out.1 4 (by decide)).mono ?_
    rintro e3 w3 ⟨n3, rfl, h3⟩
    have H4 := Lib.hid h3.up1
    clear h3 H d0
    have S3 := Lib.hid (Src.of_sl H4.out.up1.sl)
    go_wp2_with (at_builtin; refine wpList_add (.tmp 9) (.tmp 12) 23 5 .u8 0 1 rfl rfl Try.underlying23 info_u8 _ _ (hd3 wh) (leN ep 4) rfl rfl H4.out.sl S3.out (by rw [leN_len]; simp [hd3]) (by rw [leN_len]; simp [hd3]) ?_
                 intro v4 w4 hp
                 have h4 := (H4.out.added hp (Nat.le_refl _)).up1.drop
                 have d1 := h4.drop.blk.cell (i := 1) rfl
                 have H5 := Lib.hid h4
                 clear hp h4 S3 H4)
    refine (Number_h H5.out nu OK.out.2.1 4 (by decide)).mono ?_
    rintro e6 w6 ⟨n6, rfl, h6⟩
    have H6 := Lib.hid h6.up1
    clear h6 H5 d1
    have S6 := Lib.hid (Src.of_sl H6.out.up1.sl)
    go_wp2_with (at_builtin; refine wpList_add (.tmp 14) (.tmp 17) 23 5 .u8 0 1 rfl rfl Try.underlying23 info_u8 _ _ (hd3 wh ++ leN ep 4) (leN nu 4) rfl rfl H6.out.sl S6.out (by simp [hd3, leN_len]) (by simp [hd3, leN_len]) ?_
                 intro v7 w7 hp
                 have h7 := (H6.out.added hp (Nat.le_refl _)).up1.drop
                 have d3 := h7.drop.blk.cell (i := 3) rfl
                 have H7 := Lib.hid h7
                 clear hp h7 S6 H6)
    refine (Number_h H7.out (pay.length : Int) ⟨by omega, by omega⟩ 2 (by decide)).mono ?_
    rintro e8 w8 ⟨n8, rfl, h8⟩
    have H8 := Lib.hid h8.up1
    clear h8 H7 d3
    have S8 := Lib.hid (Src.of_sl H8.out.up1.sl)
    have PL := Lib.hid hl
    go_wp2_with (first
      | (at_builtin; refine wpList_add (.tmp 19) (.tmp 24) 23 5 .u8 0 1 rfl rfl Try.underlying23 info_u8 _ _ (hd3 wh ++ leN ep 4 ++ leN nu 4) (leN (pay.length : Int) 2) rfl rfl H8.out.sl S8.out (by simp [hd3, leN_len]) (by simp [hd3, leN_len]) ?_
         intro v9 w9 hp
         have h9 := (H8.out.added hp (Nat.le_refl _)).up1.drop
         have d3 := h9.drop.blk.cell (i := 3) rfl
         have H9 := Lib.hid h9
         clear hp h9 S8 H8
         have hx : hd3 wh ++ leN ep 4 ++ leN nu 4 ++ leN (pay.length : Int) 2 ++ pay = pre ⟨ep, nu, wh, pay⟩ := rfl
         have hlen : (hd3 wh ++ leN ep 4 ++ leN nu 4 ++ leN (pay.length : Int) 2).length = 13 := by simp [hd3, leN_len]
         obtain ⟨X, hX⟩ : ∃ X, hd3 wh ++ leN ep 4 ++ leN nu 4 ++ leN (pay.length : Int) 2 = X := ⟨_, rfl⟩
         rw [hX] at hx hlen H9
         have HL := Lib.hid hlen
         have HXX := Lib.hid hx
         have S1 := Lib.hid (RD.out _ H9.out.drop.drop)
         clear hlen hx hX)
      | (at_builtin; refine wpList_add (.tmp 26) (.tmp 28) 23 5 .u8 0 1 rfl rfl Try.underlying23 info_u8 v9 _ X pay rfl rfl H9.out.sl S1.out (by rw [HL.out]; have := PL.out; omega) (by rw [HL.out]; have := PL.out; omega) ?_
         intro v10 w10 hp
         have h10 := H9.out.added hp (Nat.le_refl _)
         rw [HXX.out] at h10
         obtain ⟨g10, c10, rfl, r10⟩ := Sl_some h10.sl (by rw [pre_len]; omega)
         have H10 := Lib.hid h10
         clear hp h10 r10))
    have PB := Lib.hid (pre_bytes OK.out.2.2)
    have PN : Hid ((pre ⟨ep, nu, wh, pay⟩).length = 13 + pay.length) := Lib.hid (pre_len _)
    have CB := Lib.hid (crc_bd (pre ⟨ep, nu, wh, pay⟩))
    obtain ⟨X2, hX2⟩ : ∃ X2, pre ⟨ep, nu, wh, pay⟩ = X2 := ⟨_, rfl⟩
    have HB : Hid (bts ⟨ep, nu, wh, pay⟩ = X2 ++ leN (crcI X2) 4) := Lib.hid (by rw [← hX2]; rfl)
    rw [hX2] at H10 PB PN CB
    rw [hX2]
    clear hX2 d3 H9
    refine (rOf_h (Src.of_sl H10.out.sl) PB.out (by rw [PN.out]; have := PL.out; omega)).mono ?_
    rintro e11 w11 ⟨rfl, he⟩
    subst w11
    go_wp2_with fail
    refine (Number_h H10.out _ CB.out 4 (by decide)).mono ?_
    rintro e12 w12 ⟨n12, rfl, h12⟩
    have H12 := Lib.hid h12.up1
    clear h12 H10
    have S12 := Lib.hid (Src.of_sl H12.out.up1.sl)
    go_wp2_with (at_builtin; refine wpList_add (.tmp 30) (.tmp 33) 23 5 .u8 0 1 rfl rfl Try.underlying23 info_u8 _ _ X2 (leN (crcI X2) 4) rfl rfl H12.out.sl S12.out (by rw [PN.out, leN_len]; have := PL.out; omega) (by rw [PN.out, leN_len]; have := PL.out; omega) ?_
                 intro v13 w13 hp
                 have h13 := (H12.out.added hp (Nat.le_refl _)).up1.drop.up1.drop
                 rw [← HB.out] at h13
                 have H13 := Lib.hid h13
                 clear hp h13 S12 H12)
    go_ret
    exact ⟨_, rfl, H13.out⟩
end Go.Proofs.Ytdekdcleeignoaa.Pk
