/-
  Packets: bytes in any pieces; the law. No condition but those told.
-/
import Derived.Test.YtdekdcleeignoaaPkf
set_option linter.unusedVariables false
set_option linter.unusedSimpArgs false
namespace Go.Proofs.Ytdekdcleeignoaa.Pk
open Go.RowKit Go.Proofs.Ytdekdcleeignoaa Go.Proofs.YtdekdcleeignoaaW.PrintWords
theorem Lies.take {w : World} {A : Option Addr} {xs : List Int} (h : Lies w A xs) (n : Nat) : Lies w A (xs.take n) := by
  rcases h with rfl | ⟨g, off, e, h⟩
  · left; simp
  · refine .inr ⟨g, off, e, fun j hj => ?_⟩
    rw [List.length_take] at hj
    rw [h j (by omega), List.getElem_take]
theorem gcells_one (qs : List (P × Value)) (hs : ∀ q ∈ qs, ∃ A n c, q.2 = .slice A n c) : ∀ u ∈ gcells qs, u.oneCell' = true := fun u hu => by
  unfold gcells at hu
  obtain ⟨q, hq, h⟩ := List.mem_flatMap.1 hu
  obtain ⟨A, n, c, e⟩ := hs q hq
  simp [pcells, e] at h
  rcases h with rfl | rfl | rfl | rfl <;> rfl
set_option maxHeartbeats 4000000 in
set_option maxRecDepth 20000 in
theorem feeds_main (a0 : Option Addr) (cap0 : Nat) (bs : List Int) (a1 : Option Addr) (cap1 : Nat) (ks : List Int) (W : World) (s0 : Lies W a0 bs) (s1 : Lies W a1 ks) (hb : Bytes bs) (hk : Bytes ks) (len0 len1 : Nat) (l0 : bs.length = len0) (l1 : ks.length = len1) (h0 : len0 ≤ 3000) (h1 : len1 ≤ 100) (hc0 : len0 ≤ cap0) (hc1 : len1 ≤ cap1) :
    Calls Try.prog 5 #[.slice a0 len0 cap0, .slice a1 len1 cap1] W fun e w' => e = .returned (.bool true) ∧ Below W.heap.size W w' := by
  have k1 : decide ((3000 : Int) < (len0 : Int)) = false := decide_eq_false (by omega)
  have k2 : decide ((100 : Int) < (len1 : Int)) = false := decide_eq_false (by omega)
  have RD := Lib.hid s0
  have RK := Lib.hid s1
  have BB := Lib.hid hb
  have BK := Lib.hid hk
  have L0 := Lib.hid l0
  have L1 := Lib.hid l1
  clear s0 s1 hb hk l0 l1
  go_enter Try.func5, Try.ntmps5
  go_wp2_with fail
  refine (lives_h _).mono ?_
  rintro e1 w1 ⟨rfl, b1⟩
  have H1 : Hid (Hp W w1 []) := Lib.hid ((Hp.nil W).keep b1)
  have H2 := Lib.hid ((Hp_pays_nil (((H1.out.add_sl (Below.refl _ _) (Sl.nil w1 5 .u8) (fun g hg => by cases hg)).new_blk 41 #[.slice none 0 0, .int .i64 0]))).vs_nil 25 4)
  have H3 := Lib.hid (H2.out.pk [2, 2, 0, 0])
  obtain ⟨gr, hgr⟩ : ∃ gr, w1.heap.size = gr := ⟨_, rfl⟩
  rw [hgr] at H3
  clear b1 H1 H2
  go_wp2_with fail
  go_loopw [6, 7, 34] (fun u v x wr => ∃ k a qs A c2 A1 n1 c1, k ≤ len1 ∧ a ≤ len0 ∧ u = .slice A qs.length c2 ∧ v = .int .i64 ((a : Nat) : Int) ∧ x = .int .i64 ((k : Nat) : Int) ∧ qs.length ≤ len0 ∧
      Hid (Hp W wr [blkA gr 41 #[.slice A1 n1 c1, .int .i64 (((all (bs.take a)).2.1 : Nat) : Int)], slA 5 .u8 (.slice A1 n1 c1) (all (bs.take a)).2.2, vsA 25 4 (.slice A qs.length c2) qs.length (gcells qs), paysA qs]) ∧
      Hid (qs.map (·.1) = (all (bs.take a)).1)) (fun _ _ x _ => len1 - (intOf x).toNat)
  case atStart => exact ⟨0, 0, [], none, 0, none, 0, 0, by omega, by omega, rfl, rfl, rfl, by simp, H3, Lib.hid rfl⟩
  case round =>
    clear H3
    obtain ⟨k, a, qs, A, c2, A1, n1, c1, hk, ha, rfl, rfl, rfl, hql, HC, HQ⟩ := hrel
    by_cases hlt : k < len1
    · rcases RK.out with h | ⟨g1, off1, rfl, R1⟩
      · exfalso
        have := L1.out
        rw [h] at this
        simp at this
        omega
      have kl : k < ks.length := by rw [L1.out]; exact hlt
      have cx := (R1.below HC.out.b) k kl
      have yb := BK.out _ (List.getElem_mem kl)
      generalize ks[k]'kl = y at cx yb
      obtain ⟨yn, rfl⟩ := Int.eq_ofNat_of_zero_le yb.1
      have ki : (k : Int) < (len1 : Int) := by omega
      have dk : decide ((k : Int) < (len1 : Int)) = true := decide_eq_true ki
      obtain ⟨n, hn⟩ : ∃ n : Nat, n = min yn (len0 - a) := ⟨_, rfl⟩
      have i1 : IntKind.i64.wrap ((len0 : Int) - (a : Int)) = ((len0 - a : Nat) : Int) := by rw [show (len0 : Int) - a = ((len0 - a : Nat) : Int) by omega]; exact IntWalk.i64_in _ (by omega)
      have an : a + n ≤ len0 := by omega
      have HN := Lib.hid hn
      clear R1 kl hn
      go_upto_region 9 with fail
      go_cut [10] (fun v wc => v = .int .i64 (n : Int) ∧ wc = wr)
      case first =>
        go_wp2_with fail
        all_goals (go_meet; have hn := HN.out; exact ⟨by congr 1; omega, rfl⟩)
      case rest =>
        obtain ⟨rfl, rfl⟩ := hcut
        clear i1 cx yb HN
        have BN : bs.length = len0 := L0.out
        have ST : Hid ((all (bs.take (a + n))).1 = (all (bs.take a)).1 ++ (all ((all (bs.take a)).2.2 ++ (bs.drop a).take n)).1 ∧ (all (bs.take (a + n))).2.1 = (all (bs.take a)).2.1 + (all ((all (bs.take a)).2.2 ++ (bs.drop a).take n)).2.1 ∧ (all (bs.take (a + n))).2.2 = (all ((all (bs.take a)).2.2 ++ (bs.drop a).take n)).2.2) := Lib.hid (by
          rw [List.take_add, all_step]
          exact ⟨rfl, rfl, rfl⟩)
        have hsub := all_sub _ (bs.take a) (Nat.le_refl _)
        have OB : Hid (Bytes ((all (bs.take a)).2.2 ++ (bs.drop a).take n)) := Lib.hid (bytes_app (fun x hx => BB.out x (List.mem_of_mem_take (hsub.subset hx))) (fun x hx => BB.out x (List.mem_of_mem_drop (List.mem_of_mem_take hx))))
        have OL : Hid (((all (bs.take a)).2.2 ++ (bs.drop a).take n).length ≤ 100000) := Lib.hid (by
          have := hsub.length_le
          rw [List.length_append]
          rw [List.length_take] at *
          omega)
        have LO : Hid ((all (bs.take a)).2.1 ≤ 100000) := Lib.hid (by
          have := all_lostle _ (bs.take a) (Nat.le_refl _)
          rw [List.length_take] at this
          omega)
        clear hsub
        have SR2 : Hid (cap0 = a → ∀ c', Src wc .u8 (.slice a0 n c') ((bs.drop a).take n)) := Lib.hid (fun h c' => Src.part RD.out HC.out.b a n (by omega) (fun h0 => by exfalso; omega))
        have SR3 : Hid (¬ cap0 = a → ∀ c', Src wc .u8 (.slice (Option.map (fun x => x.add a) a0) n c') ((bs.drop a).take n)) := Lib.hid (fun h c' => Src.part RD.out HC.out.b a n (by omega) (fun h0 g off e => by subst e; simp [Addr.add]))
        have SR1 : Hid (∀ c', Src wc .u8 (.slice (if cap0 = a then a0 else Option.map (fun x => x.add a) a0) n c') ((bs.drop a).take n)) := Lib.hid (fun c' => by
          split
          · exact SR2.out (by assumption) c'
          · exact SR3.out (by assumption) c')
        have i2 : (((a : Int) + (n : Int)).toNat - a) = n := by omega
        go_upto_region 10 with fail
        go_cut [6] (fun v wc => ∃ A c qs' A1 n1 c1, v = .slice A qs'.length c ∧ qs'.length ≤ len0 ∧ Hid (Hp W wc [blkA gr 41 #[.slice A1 n1 c1, .int .i64 (((all (bs.take (a + n))).2.1 : Nat) : Int)], slA 5 .u8 (.slice A1 n1 c1) (all (bs.take (a + n))).2.2, vsA 25 4 (.slice A qs'.length c) qs'.length (gcells qs'), paysA qs']) ∧ Hid (qs'.map (·.1) = (all (bs.take (a + n))).1))
        case first =>
          by_cases hca : cap0 = a
          · have hca := hca.symm
            subst hca
            go_wp2_with (first
            | (go_at_call 13
               go_loud (
                 refine (Feed_any HC.out (bs := (bs.drop a).take n) (by first | exact SR1.out _ | (rw [i2]; exact SR1.out _) | exact SR2.out (by omega) _ | (rw [i2]; exact SR2.out (by omega) _) | exact SR3.out (by assumption) _ | (rw [i2]; exact SR3.out (by assumption) _)) OB.out OL.out LO.out).mono ?_
                 intro e5 w5 hp
                 unfold FeedPost at hp
                 obtain ⟨A4, n4, c4, v4, rs, rfl, hrs, h5⟩ := hp
                 rw [← ST.out.2.1, ← ST.out.2.2] at h5
                 obtain ⟨A5, c5, rfl, _⟩ := ownsRow_form h5.drop.drop.vs
                 have H5 := Lib.hid h5
                 have QL : Hid ((qs ++ rs).map (·.1) = (all (bs.take (a + n))).1) := Lib.hid (by rw [List.map_append, HQ.out, hrs, ← ST.out.1])
                 have ql : qs.length + rs.length ≤ len0 := by
                   have h := congrArg List.length QL.out
                   rw [List.length_map, List.length_append] at h
                   have h2 := all_gotle len0 (bs.take (a + n)) (by rw [List.length_take]; omega)
                   omega
                 clear hrs h5))
            | (at_builtin; refine wpList_addV (.tmp 45) (.tmp 52) 42 25 (.agg zcells) 4 40 rfl rfl Try.underlying42 info_pkt rfl (by decide) _ _ qs.length rs.length (gcells qs) (gcells rs) rfl rfl (H5.out.pk [4]).vs (SrcV.of_own (H5.out.pk [2]).vs) (gcells_one _ (fun q hq => (Hp_pays (H5.out.pk [3]) q hq).2)) (by omega) (by omega) ?_
               intro v6 w6 hp
               obtain ⟨A6, c6, rfl, _⟩ := ownsRow_form hp.own
               have h6 := (H5.out.up4).addedV hp (Nat.le_refl _)
               have H6 := Lib.hid ((Hp_pays_join (h6.pk [5, 4, 1, 1, 0])).pk [1, 1, 1, 0])
               rw [← gcells_app] at H6
               clear hp h6))
            all_goals (
              go_meet
              exact ⟨A6, c6, qs ++ rs, A4, n4, c4, by rw [List.length_append], by rw [List.length_append]; exact ql, by rw [List.length_append]; exact H6, QL⟩)
          · skip
            go_wp2_with (first
            | (go_at_call 13
               go_loud (
                 refine (Feed_any HC.out (bs := (bs.drop a).take n) (by first | exact SR1.out _ | (rw [i2]; exact SR1.out _) | exact SR2.out (by omega) _ | (rw [i2]; exact SR2.out (by omega) _) | exact SR3.out (by assumption) _ | (rw [i2]; exact SR3.out (by assumption) _)) OB.out OL.out LO.out).mono ?_
                 intro e5 w5 hp
                 unfold FeedPost at hp
                 obtain ⟨A4, n4, c4, v4, rs, rfl, hrs, h5⟩ := hp
                 rw [← ST.out.2.1, ← ST.out.2.2] at h5
                 obtain ⟨A5, c5, rfl, _⟩ := ownsRow_form h5.drop.drop.vs
                 have H5 := Lib.hid h5
                 have QL : Hid ((qs ++ rs).map (·.1) = (all (bs.take (a + n))).1) := Lib.hid (by rw [List.map_append, HQ.out, hrs, ← ST.out.1])
                 have ql : qs.length + rs.length ≤ len0 := by
                   have h := congrArg List.length QL.out
                   rw [List.length_map, List.length_append] at h
                   have h2 := all_gotle len0 (bs.take (a + n)) (by rw [List.length_take]; omega)
                   omega
                 clear hrs h5))
            | (at_builtin; refine wpList_addV (.tmp 45) (.tmp 52) 42 25 (.agg zcells) 4 40 rfl rfl Try.underlying42 info_pkt rfl (by decide) _ _ qs.length rs.length (gcells qs) (gcells rs) rfl rfl (H5.out.pk [4]).vs (SrcV.of_own (H5.out.pk [2]).vs) (gcells_one _ (fun q hq => (Hp_pays (H5.out.pk [3]) q hq).2)) (by omega) (by omega) ?_
               intro v6 w6 hp
               obtain ⟨A6, c6, rfl, _⟩ := ownsRow_form hp.own
               have h6 := (H5.out.up4).addedV hp (Nat.le_refl _)
               have H6 := Lib.hid ((Hp_pays_join (h6.pk [5, 4, 1, 1, 0])).pk [1, 1, 1, 0])
               rw [← gcells_app] at H6
               clear hp h6))
            all_goals (
              go_meet
              exact ⟨A6, c6, qs ++ rs, A4, n4, c4, by rw [List.length_append], by rw [List.length_append]; exact ql, by rw [List.length_append]; exact H6, QL⟩)
        case rest =>
          obtain ⟨A6, c6, qs', A4, n4, c4, rfl, hql', H6, HQ6⟩ := hcut
          clear HC HQ hql SR1 SR2 SR3 OB OL LO ST
          obtain ⟨b, hbn⟩ : ∃ b, a + n = b := ⟨_, rfl⟩
          rw [hbn] at H6 HQ6 an
          have TL := Lib.hid (show (bs.take b).length = b by rw [List.length_take, BN]; omega)
          have wi : IntKind.i64.wrap ((a : Int) + (n : Int)) = (b : Int) := by rw [show (a : Int) + n = (b : Int) by omega]; exact IntWalk.i64_in _ (by omega)
          have HBN := Lib.hid hbn
          clear hbn i2 BN
          obtain ⟨x4, hx4⟩ : ∃ x4, (all (bs.take b)).2.1 = x4 := ⟨_, rfl⟩
          obtain ⟨y4, hy4⟩ : ∃ y4, (all (bs.take b)).2.2 = y4 := ⟨_, rfl⟩
          have LF : y4.length ≤ 616 := by rw [← hy4]; exact all_left _ _ (Nat.le_refl _)
          have hn4 : n4 = y4.length := by
            have h := H6.out.drop.sl.form
            rw [hy4] at h
            obtain ⟨_, _, h, _⟩ := h
            injection h
          subst hn4
          have X4 := Lib.hid hx4
          have Y4 := Lib.hid hy4
          have hlt2 : decide ((617 : Int) ≤ (y4.length : Int)) = false := decide_eq_false (by omega)
          have hlt3 : ¬ (617 : Int) ≤ (y4.length : Int) := by omega
          have AP : Hid (∀ w', Hp W w' [blkA gr 41 #[.slice A4 y4.length c4, .int .i64 (x4 : Int)], slA 5 .u8 (.slice A4 y4.length c4) y4, vsA 25 4 (.slice A6 qs'.length c6) qs'.length (gcells qs'), paysA qs'] → Calls Try.prog 14 #[.slice a0 b cap0] w' fun e w'' => ∃ v, e = .returned (.tuple #[v, .int .i64 x4, .int .i64 y4.length]) ∧ Hp W w'' [blkA gr 41 #[.slice A4 y4.length c4, .int .i64 (x4 : Int)], slA 5 .u8 (.slice A4 y4.length c4) y4, vsA 25 4 (.slice A6 qs'.length c6) qs'.length (gcells qs'), paysA qs']) := Lib.hid (fun w' h => (rAll_h h (RD.out.take b) TL.out (fun x hx => BB.out x (List.mem_of_mem_take hx)) (by omega) (by omega)).mono (fun e w'' hp => by
            unfold AllPost at hp
            obtain ⟨v, rs, rfl, _, _, h2⟩ := hp
            exact ⟨v, by rw [hx4, hy4], h2.drop⟩))
          rw [hx4, hy4] at H6
          clear hx4 hy4
          go_wp2_with (first
            | (go_at_call 14
               go_loud (
                 refine (AP.out _ H6.out).mono ?_
                 rintro e7 w7 ⟨v7, rfl, h7⟩
                 have H7 := Lib.hid h7
                 clear h7))
            | (go_at_call 15
               refine (Lost_h H7.out.blk).mono ?_
               rintro e8 w8 ⟨rfl, hw8⟩
               subst w8)
            | (go_at_call 16
               refine (Left_h H7.out.blk).mono ?_
               rintro e8 w8 ⟨rfl, hw8⟩
               subst w8))
          go_roundw
          case rel => exact ⟨k + 1, b, qs', A6, c6, A4, y4.length, c4, by omega, an, rfl, rfl, by go_num, hql', Lib.hid (by rw [X4.out, Y4.out]; exact H7.out), HQ6⟩
          case measure => simp [intOf]; omega
    · obtain rfl : k = len1 := by omega
      have dk : decide ((k : Int) < (k : Int)) = false := decide_eq_false (by omega)
      obtain ⟨n, hn⟩ : ∃ n : Nat, len0 - a = n := ⟨_, rfl⟩
      have an : a + n ≤ len0 := by omega
      have HN := Lib.hid (show a + n = len0 by omega)
      have BN : bs.length = len0 := L0.out
      have ST : Hid ((all (bs.take (a + n))).1 = (all (bs.take a)).1 ++ (all ((all (bs.take a)).2.2 ++ (bs.drop a).take n)).1 ∧ (all (bs.take (a + n))).2.1 = (all (bs.take a)).2.1 + (all ((all (bs.take a)).2.2 ++ (bs.drop a).take n)).2.1 ∧ (all (bs.take (a + n))).2.2 = (all ((all (bs.take a)).2.2 ++ (bs.drop a).take n)).2.2) := Lib.hid (by
        rw [List.take_add, all_step]
        exact ⟨rfl, rfl, rfl⟩)
      have hsub := all_sub _ (bs.take a) (Nat.le_refl _)
      have OB : Hid (Bytes ((all (bs.take a)).2.2 ++ (bs.drop a).take n)) := Lib.hid (bytes_app (fun x hx => BB.out x (List.mem_of_mem_take (hsub.subset hx))) (fun x hx => BB.out x (List.mem_of_mem_drop (List.mem_of_mem_take hx))))
      have OL : Hid (((all (bs.take a)).2.2 ++ (bs.drop a).take n).length ≤ 100000) := Lib.hid (by
        have := hsub.length_le
        rw [List.length_append]
        rw [List.length_take] at *
        omega)
      have LO : Hid ((all (bs.take a)).2.1 ≤ 100000) := Lib.hid (by
        have := all_lostle _ (bs.take a) (Nat.le_refl _)
        rw [List.length_take] at this
        omega)
      clear hsub
      have SR2 : Hid (cap0 = a → ∀ c', Src wr .u8 (.slice a0 n c') ((bs.drop a).take n)) := Lib.hid (fun h c' => Src.part RD.out HC.out.b a n (by omega) (fun h0 => by exfalso; omega))
      have SR3 : Hid (¬ cap0 = a → ∀ c', Src wr .u8 (.slice (Option.map (fun x => x.add a) a0) n c') ((bs.drop a).take n)) := Lib.hid (fun h c' => Src.part RD.out HC.out.b a n (by omega) (fun h0 g off e => by subst e; simp [Addr.add]))
      have SR1 : Hid (∀ c', Src wr .u8 (.slice (if cap0 = a then a0 else Option.map (fun x => x.add a) a0) n c') ((bs.drop a).take n)) := Lib.hid (fun c' => by
        split
        · exact SR2.out (by assumption) c'
        · exact SR3.out (by assumption) c')
      have i2 : (((a : Int) + (n : Int)).toNat - a) = n := by omega
      go_upto_region 16 with fail
      go_cut [6] (fun v wc => ∃ A c qs' A1 n1 c1, v = .slice A qs'.length c ∧ qs'.length ≤ len0 ∧ Hid (Hp W wc [blkA gr 41 #[.slice A1 n1 c1, .int .i64 (((all (bs.take (a + n))).2.1 : Nat) : Int)], slA 5 .u8 (.slice A1 n1 c1) (all (bs.take (a + n))).2.2, vsA 25 4 (.slice A qs'.length c) qs'.length (gcells qs'), paysA qs']) ∧ Hid (qs'.map (·.1) = (all (bs.take (a + n))).1))
      case first =>
        by_cases hca : cap0 = a
        · have hca := hca.symm
          subst hca
          go_wp2_with (first
          | (go_at_call 13
             go_loud (
               refine (Feed_any HC.out (bs := (bs.drop a).take n) (by first | exact SR1.out _ | (rw [i2]; exact SR1.out _) | exact SR2.out (by omega) _ | (rw [i2]; exact SR2.out (by omega) _) | exact SR3.out (by assumption) _ | (rw [i2]; exact SR3.out (by assumption) _)) OB.out OL.out LO.out).mono ?_
               intro e5 w5 hp
               unfold FeedPost at hp
               obtain ⟨A4, n4, c4, v4, rs, rfl, hrs, h5⟩ := hp
               rw [← ST.out.2.1, ← ST.out.2.2] at h5
               obtain ⟨A5, c5, rfl, _⟩ := ownsRow_form h5.drop.drop.vs
               have H5 := Lib.hid h5
               have QL : Hid ((qs ++ rs).map (·.1) = (all (bs.take (a + n))).1) := Lib.hid (by rw [List.map_append, HQ.out, hrs, ← ST.out.1])
               have ql : qs.length + rs.length ≤ len0 := by
                 have h := congrArg List.length QL.out
                 rw [List.length_map, List.length_append] at h
                 have h2 := all_gotle len0 (bs.take (a + n)) (by rw [List.length_take]; omega)
                 omega
               clear hrs h5))
          | (at_builtin; refine wpList_addV (.tmp 78) (.tmp 82) 42 25 (.agg zcells) 4 40 rfl rfl Try.underlying42 info_pkt rfl (by decide) _ _ qs.length rs.length (gcells qs) (gcells rs) rfl rfl (H5.out.pk [4]).vs (SrcV.of_own (H5.out.pk [2]).vs) (gcells_one _ (fun q hq => (Hp_pays (H5.out.pk [3]) q hq).2)) (by omega) (by omega) ?_
             intro v6 w6 hp
             obtain ⟨A6, c6, rfl, _⟩ := ownsRow_form hp.own
             have h6 := (H5.out.up4).addedV hp (Nat.le_refl _)
             have H6 := Lib.hid ((Hp_pays_join (h6.pk [5, 4, 1, 1, 0])).pk [1, 1, 1, 0])
             rw [← gcells_app] at H6
             clear hp h6))
          all_goals (
            go_meet
            exact ⟨A6, c6, qs ++ rs, A4, n4, c4, by rw [List.length_append], by rw [List.length_append]; exact ql, by rw [List.length_append]; exact H6, QL⟩)
        · skip
          go_wp2_with (first
          | (go_at_call 13
             go_loud (
               refine (Feed_any HC.out (bs := (bs.drop a).take n) (by first | exact SR1.out _ | (rw [i2]; exact SR1.out _) | exact SR2.out (by omega) _ | (rw [i2]; exact SR2.out (by omega) _) | exact SR3.out (by assumption) _ | (rw [i2]; exact SR3.out (by assumption) _)) OB.out OL.out LO.out).mono ?_
               intro e5 w5 hp
               unfold FeedPost at hp
               obtain ⟨A4, n4, c4, v4, rs, rfl, hrs, h5⟩ := hp
               rw [← ST.out.2.1, ← ST.out.2.2] at h5
               obtain ⟨A5, c5, rfl, _⟩ := ownsRow_form h5.drop.drop.vs
               have H5 := Lib.hid h5
               have QL : Hid ((qs ++ rs).map (·.1) = (all (bs.take (a + n))).1) := Lib.hid (by rw [List.map_append, HQ.out, hrs, ← ST.out.1])
               have ql : qs.length + rs.length ≤ len0 := by
                 have h := congrArg List.length QL.out
                 rw [List.length_map, List.length_append] at h
                 have h2 := all_gotle len0 (bs.take (a + n)) (by rw [List.length_take]; omega)
                 omega
               clear hrs h5))
          | (at_builtin; refine wpList_addV (.tmp 78) (.tmp 82) 42 25 (.agg zcells) 4 40 rfl rfl Try.underlying42 info_pkt rfl (by decide) _ _ qs.length rs.length (gcells qs) (gcells rs) rfl rfl (H5.out.pk [4]).vs (SrcV.of_own (H5.out.pk [2]).vs) (gcells_one _ (fun q hq => (Hp_pays (H5.out.pk [3]) q hq).2)) (by omega) (by omega) ?_
             intro v6 w6 hp
             obtain ⟨A6, c6, rfl, _⟩ := ownsRow_form hp.own
             have h6 := (H5.out.up4).addedV hp (Nat.le_refl _)
             have H6 := Lib.hid ((Hp_pays_join (h6.pk [5, 4, 1, 1, 0])).pk [1, 1, 1, 0])
             rw [← gcells_app] at H6
             clear hp h6))
          all_goals (
            go_meet
            exact ⟨A6, c6, qs ++ rs, A4, n4, c4, by rw [List.length_append], by rw [List.length_append]; exact ql, by rw [List.length_append]; exact H6, QL⟩)
      case rest =>
        obtain ⟨A6, c6, qs', A4, n4, c4, rfl, hql', H6, HQ6⟩ := hcut
        clear HC HQ hql SR1 SR2 SR3 OB OL LO ST
        rw [HN.out, show bs.take len0 = bs by rw [← BN]; exact List.take_length] at H6 HQ6
        obtain ⟨x4, hx4⟩ : ∃ x4, (all bs).2.1 = x4 := ⟨_, rfl⟩
        obtain ⟨y4, hy4⟩ : ∃ y4, (all bs).2.2 = y4 := ⟨_, rfl⟩
        have hn4 : n4 = y4.length := by
          have h := H6.out.drop.sl.form
          rw [hy4] at h
          obtain ⟨_, _, h, _⟩ := h
          injection h
        subst hn4
        have AP : Hid (∀ w', Hp W w' [blkA gr 41 #[.slice A4 y4.length c4, .int .i64 (x4 : Int)], slA 5 .u8 (.slice A4 y4.length c4) y4, vsA 25 4 (.slice A6 qs'.length c6) qs'.length (gcells qs'), paysA qs'] → Calls Try.prog 14 #[.slice a0 len0 cap0] w' fun e w'' => ∃ A7 c7 rs, e = .returned (.tuple #[.slice A7 qs'.length c7, .int .i64 x4, .int .i64 y4.length]) ∧ rs.map (·.1) = qs'.map (·.1) ∧ (∀ q ∈ rs, Src W .u8 q.2 q.1.pay ∧ ∃ A n c, q.2 = .slice A n c) ∧ Hp W w'' [vsA 33 4 (.slice A7 qs'.length c7) qs'.length (gcells rs), blkA gr 41 #[.slice A4 y4.length c4, .int .i64 (x4 : Int)], slA 5 .u8 (.slice A4 y4.length c4) y4, vsA 25 4 (.slice A6 qs'.length c6) qs'.length (gcells qs'), paysA qs']) := Lib.hid (fun w' h => (rAll_h h RD.out L0.out BB.out (by omega) hc0).mono (fun e w'' hp => by
          unfold AllPost at hp
          obtain ⟨v, rs, rfl, hrs, hsr, h2⟩ := hp
          obtain ⟨A7, c7, rfl, _⟩ := ownsRow_form h2.vs
          have hl : rs.length = qs'.length := by
            have h := congrArg List.length (hrs.trans HQ6.out.symm)
            simpa using h
          rw [hl] at h2 ⊢
          exact ⟨A7, c7, rs, by rw [hx4, hy4], hrs.trans HQ6.out.symm, hsr, h2⟩))
        rw [hx4, hy4] at H6
        clear hx4 hy4
        go_wp2_with fail
        refine (AP.out _ H6.out).mono ?_
        rintro e7 w7 ⟨A7, c7, rs, rfl, hrs, hsr, h7⟩
        have H7 := Lib.hid h7
        have RS := Lib.hid hrs
        have SR := Lib.hid hsr
        clear h7 hrs hsr H6 AP
        go_wp2_with fail
        refine (Lost_h H7.out.drop.blk).mono ?_
        rintro e8 w8 ⟨rfl, hw8⟩
        subst w8
        go_wp2_with fail
        refine (Left_h H7.out.drop.blk).mono ?_
        rintro e8 w8 ⟨rfl, hw8⟩
        subst w8
        obtain ⟨N, hN⟩ : ∃ N, qs'.length = N := ⟨_, rfl⟩
        have NN := Lib.hid hN
        rw [hN] at H7 hql'
        go_wp2_with fail
        go_loopw [107] (fun x wr => ∃ k : Nat, k ≤ N ∧ x = .int .i64 (k : Int) ∧ Hid (Hp W wr [vsA 33 4 (.slice A7 N c7) N (gcells rs), blkA gr 41 #[.slice A4 y4.length c4, .int .i64 (x4 : Int)], slA 5 .u8 (.slice A4 y4.length c4) y4, vsA 25 4 (.slice A6 N c6) N (gcells qs'), paysA qs'])) (fun x _ => N - (intOf x).toNat)
        case atStart => exact ⟨0, by omega, rfl, H7⟩
        case round =>
          clear H7
          obtain ⟨i, hi, rfl, H8⟩ := hrel
          by_cases hlt : i < N
          · have ki : (i : Int) < (N : Int) := by omega
            have dk2 : decide ((i : Int) < (N : Int)) = true := decide_eq_true ki
            obtain ⟨g6, d6, e6, _, cl6⟩ := ownsRow_some (H8.out.pk [3]).vs (by omega)
            injection e6 with e6 _ e6'
            subst e6 e6'
            obtain ⟨g7, d7, e7, _, cl7⟩ := ownsRow_some H8.out.vs (by omega)
            injection e7 with e7 _ e7'
            subst e7 e7'
            have il : i < qs'.length := by rw [NN.out]; exact hlt
            have ir : i < rs.length := by have h := congrArg List.length RS.out; rw [List.length_map, List.length_map] at h; omega
            have pe : rs[i].1 = qs'[i].1 := by
              have h := congrArg (fun l => l[i]?) RS.out
              simpa [il, ir] using h
            have G6 := fun j hj => gcells_get qs' i j il hj
            have G7 := fun j hj => gcells_get rs i j ir hj
            have P6 := Hp_pays (H8.out.pk [4]) _ (List.getElem_mem il)
            have P7 := SR.out _ (List.getElem_mem ir)
            rw [pe] at G7 P7
            generalize qs'[i] = q at *
            generalize rs[i] = r at *
            obtain ⟨p, u6⟩ := q
            obtain ⟨_, u7⟩ := r
            simp only at G6 G7 P6 P7 pe
            clear pe
            obtain ⟨S6, B6, n6, f6, rfl⟩ := P6
            obtain ⟨S7, B7, n7, f7, rfl⟩ := P7
            have C6 := Lib.hid (fun j u (h : (pcells p (.slice B6 n6 f6)).toList[j]? = some u) (hj : j < 4) => cl6 (4 * i + j) u ((G6 j hj).trans h))
            have C7 := Lib.hid (fun j u (h : (pcells p (.slice B7 n7 f7)).toList[j]? = some u) (hj : j < 4) => cl7 (4 * i + j) u ((G7 j hj).trans h))
            have S6 := Lib.hid (Src.of_sl S6)
            have S7 := Lib.hid S7
            clear G6 G7 cl6 cl7
            rw [Nat.mul_comm 4 i] at C6 C7
            go_upto_region 23 with fail
            refine wp_region_noPanic ?_
            refine wp_region_any (by kernel_rfl) ?_
            try (change wpAny _ _ _ _ _ _ _ (World.drew _))
            refine wpAny_of_held (S := fun w => Below wr.heap.size wr w) _ _ _ _ ?_
            have hHeld := (Hp.nil wr).drew.b
            refine wpAnyH_take (i := 0) (v := ?_) rfl (by kernel_rfl) (by kernel_rfl) (by kernel_rfl) (fun _ _ _ h => h) (Or.inl ⟨by kernel_rfl, ?_⟩) hHeld ?_
            rotate_left
            · intro w hSw
              first | (go_simp; done) | (go_simp; with_reducible rfl)
            try simp only [Act.put, List.getElem_toArray, List.getElem_cons_zero, List.getElem_cons_succ, List.setIfInBounds_toArray, List.set_cons_zero, List.set_cons_succ]
            refine wpAnyH_take (i := 1) (v := ?_) rfl (by kernel_rfl) (by kernel_rfl) (by kernel_rfl) (fun _ _ _ h => h) (Or.inl ⟨by kernel_rfl, ?_⟩) hHeld ?_
            rotate_left
            · intro w hSw
              first | (go_simp; done) | (go_simp; with_reducible rfl)
            try simp only [Act.put, List.getElem_toArray, List.getElem_cons_zero, List.getElem_cons_succ, List.setIfInBounds_toArray, List.set_cons_zero, List.set_cons_succ]
            refine wpAnyH_take (i := 2) (v := ?_) rfl (by kernel_rfl) (by kernel_rfl) (by kernel_rfl) (fun _ _ _ h => h) (Or.inl ⟨by kernel_rfl, ?_⟩) hHeld ?_
            rotate_left
            · intro w hSw
              first | (go_simp; done) | (go_simp; with_reducible rfl)
            try simp only [Act.put, List.getElem_toArray, List.getElem_cons_zero, List.getElem_cons_succ, List.setIfInBounds_toArray, List.set_cons_zero, List.set_cons_succ]
            refine wpAnyH_take (i := 3) (v := ?_) rfl (by kernel_rfl) (by kernel_rfl) (by kernel_rfl) (fun _ _ _ h => h) (Or.inl ⟨by kernel_rfl, ?_⟩) hHeld ?_
            rotate_left
            · intro w hSw
              have c0 : w.cell? ⟨g6, i * 4, none⟩ = some (.int .u32 p.ep) := (Below.cell hSw (World.block_lt_of_cell? _ _ (C6.out 0 _ rfl (by decide)))).trans (C6.out 0 _ rfl (by decide))
              have c1 : w.cell? ⟨g6, i * 4 + 1, none⟩ = some (.int .u32 p.nu) := (Below.cell hSw (World.block_lt_of_cell? _ _ (C6.out 1 _ rfl (by decide)))).trans (C6.out 1 _ rfl (by decide))
              have c2 : w.cell? ⟨g6, i * 4 + 2, none⟩ = some (.bool p.wh) := (Below.cell hSw (World.block_lt_of_cell? _ _ (C6.out 2 _ rfl (by decide)))).trans (C6.out 2 _ rfl (by decide))
              have c3 : w.cell? ⟨g6, i * 4 + 3, none⟩ = some (.slice B6 n6 f6) := (Below.cell hSw (World.block_lt_of_cell? _ _ (C6.out 3 _ rfl (by decide)))).trans (C6.out 3 _ rfl (by decide))
              first | (go_simp; done) | (go_simp; with_reducible rfl)
            try simp only [Act.put, List.getElem_toArray, List.getElem_cons_zero, List.getElem_cons_succ, List.setIfInBounds_toArray, List.set_cons_zero, List.set_cons_succ]
            refine wpAnyH_take (i := 4) (v := ?_) rfl (by kernel_rfl) (by kernel_rfl) (by kernel_rfl) (fun _ _ _ h => h) (Or.inl ⟨by kernel_rfl, ?_⟩) hHeld ?_
            rotate_left
            · intro w hSw
              first | (go_simp; done) | (go_simp; with_reducible rfl)
            try simp only [Act.put, List.getElem_toArray, List.getElem_cons_zero, List.getElem_cons_succ, List.setIfInBounds_toArray, List.set_cons_zero, List.set_cons_succ]
            refine wpAnyH_take (i := 5) (v := ?_) rfl (by kernel_rfl) (by kernel_rfl) (by kernel_rfl) (fun _ _ _ h => h) (Or.inl ⟨by kernel_rfl, ?_⟩) hHeld ?_
            rotate_left
            · intro w hSw
              first | (go_simp; done) | (go_simp; with_reducible rfl)
            try simp only [Act.put, List.getElem_toArray, List.getElem_cons_zero, List.getElem_cons_succ, List.setIfInBounds_toArray, List.set_cons_zero, List.set_cons_succ]
            refine wpAnyH_take (i := 6) (v := ?_) rfl (by kernel_rfl) (by kernel_rfl) (by kernel_rfl) (fun _ _ _ h => h) (Or.inl ⟨by kernel_rfl, ?_⟩) hHeld ?_
            rotate_left
            · intro w hSw
              first | (go_simp; done) | (go_simp; with_reducible rfl)
            try simp only [Act.put, List.getElem_toArray, List.getElem_cons_zero, List.getElem_cons_succ, List.setIfInBounds_toArray, List.set_cons_zero, List.set_cons_succ]
            refine wpAnyH_take (i := 7) (v := ?_) rfl (by kernel_rfl) (by kernel_rfl) (by kernel_rfl) (fun _ _ _ h => h) (Or.inl ⟨by kernel_rfl, ?_⟩) hHeld ?_
            rotate_left
            · intro w hSw
              have c0 : w.cell? ⟨g7, i * 4, none⟩ = some (.int .u32 p.ep) := (Below.cell hSw (World.block_lt_of_cell? _ _ (C7.out 0 _ rfl (by decide)))).trans (C7.out 0 _ rfl (by decide))
              have c1 : w.cell? ⟨g7, i * 4 + 1, none⟩ = some (.int .u32 p.nu) := (Below.cell hSw (World.block_lt_of_cell? _ _ (C7.out 1 _ rfl (by decide)))).trans (C7.out 1 _ rfl (by decide))
              have c2 : w.cell? ⟨g7, i * 4 + 2, none⟩ = some (.bool p.wh) := (Below.cell hSw (World.block_lt_of_cell? _ _ (C7.out 2 _ rfl (by decide)))).trans (C7.out 2 _ rfl (by decide))
              have c3 : w.cell? ⟨g7, i * 4 + 3, none⟩ = some (.slice B7 n7 f7) := (Below.cell hSw (World.block_lt_of_cell? _ _ (C7.out 3 _ rfl (by decide)))).trans (C7.out 3 _ rfl (by decide))
              first | (go_simp; done) | (go_simp; with_reducible rfl)
            try simp only [Act.put, List.getElem_toArray, List.getElem_cons_zero, List.getElem_cons_succ, List.setIfInBounds_toArray, List.set_cons_zero, List.set_cons_succ]
            refine wpAnyH_ready (rs := [8]) (by kernel_rfl) (by simp) ?_
            refine AllReadyH.cons rfl (fun K hK => ?_) AllReadyH.nil
            go_simp
            go_at_call 11
            have SC := same_h p (S6.out.below hHeld) (Src.below S7.out (H8.out.b.trans (hHeld.mono H8.out.size)))
            simp only [pcells] at SC
            refine SC.mono ?_
            rintro e11 w11 ⟨rfl, b11⟩
            have B11 := Lib.hid (hHeld.trans (b11.mono hHeld.size))
            clear b11
            go_simp
            refine hK.out _ _ (B11.out) (fun hHeld => ?_)
            clear hK K
            try simp only [Act.put, List.getElem_toArray, List.getElem_cons_zero, List.getElem_cons_succ, List.setIfInBounds_toArray, List.set_cons_zero, List.set_cons_succ]
            refine wpAnyH_take (i := 9) (v := ?_) rfl (by kernel_rfl) (by kernel_rfl) (by kernel_rfl) (fun _ _ _ h => h) (Or.inl ⟨by kernel_rfl, ?_⟩) hHeld ?_
            rotate_left
            · intro w hSw
              first | (go_simp; done) | (go_simp; with_reducible rfl)
            try simp only [Act.put, List.getElem_toArray, List.getElem_cons_zero, List.getElem_cons_succ, List.setIfInBounds_toArray, List.set_cons_zero, List.set_cons_succ]
            refine wpAnyH_done (by kernel_rfl) ?_ _
            refine NoPanic.normal ?_

            have H9 := Lib.hid (H8.out.keep B11.out)
            have sm : N ≤ 3000 := by omega
            go_wp2_with fail
            go_roundw
            case rel => exact ⟨i + 1, by omega, by go_num, H9⟩
            case measure => simp [intOf]; omega
          · obtain rfl : i = N := by omega
            have dk2 : decide ((i : Int) < (i : Int)) = false := decide_eq_false (by omega)
            go_wp2_with fail
            refine (Feed_none _ _ _ _).mono ?_
            rintro e8 w8 ⟨rfl, hw8⟩
            subst w8
            go_wp2_with fail
            refine (Lost_none _).mono ?_
            rintro e8 w8 ⟨rfl, hw8⟩
            subst w8
            go_wp2_with fail
            refine (Left_none _).mono ?_
            rintro e8 w8 ⟨rfl, hw8⟩
            subst w8
            go_wp2_with fail
            go_ret
            exact ⟨rfl, H8.out.b⟩
theorem feeds_law (a0 : Option Addr) (len0 cap0 : Nat) (z0 : List Int) (a1 : Option Addr) (len1 cap1 : Nat) (z1 : List Int) (W : World) (h0 : IsRow .u8 W a0 len0 cap0 z0) (y0 : len0 * 1 ≤ 140737488351232) (h1 : IsRow .u8 W a1 len1 cap1 z1) (y1 : len1 * 1 ≤ 140737488351232) :
    Calls Try.prog 5 #[.slice a0 len0 cap0, .slice a1 len1 cap1] W fun e w' => e = .returned (.bool true) ∧ Below W.heap.size W w' := by
  by_cases b1 : 3000 < len0 ∨ 100 < len1
  · exact feeds_out _ _ _ _ _ _ _ b1
  exact feeds_main a0 cap0 (z0.take len0) a1 cap1 (z1.take len1) W (Lies.of_src h0.src) (Lies.of_src h1.src) (u8_bd h0) (u8_bd h1) len0 len1 h0.take_len h1.take_len (by omega) (by omega) (row_fits h0) (row_fits h1)
end Go.Proofs.Ytdekdcleeignoaa.Pk
