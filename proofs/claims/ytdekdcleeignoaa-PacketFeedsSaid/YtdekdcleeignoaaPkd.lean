/-
  Packets: the reader. No condition but those told.
-/
import Derived.Test.YtdekdcleeignoaaPkl
import Derived.Test.YtdekdcleeignoaaUA
set_option linter.unusedVariables false
set_option linter.unusedSimpArgs false
namespace Go.Proofs.Ytdekdcleeignoaa.Pk
open Go.RowKit Go.Proofs.Ytdekdcleeignoaa Go.Proofs.YtdekdcleeignoaaW.PrintWords
theorem info_pkt : (Try.prog.info? 25).map (fun i => (i.zero, i.size, i.bytes)) = some (some (.agg zcells), 4, 40) := by kernel_rfl
/-- The cells of packets. -/
def gcells (qs : List (P × Value)) : List Value := qs.flatMap fun q => (pcells q.1 q.2).toList
theorem gcells_app (qs rs : List (P × Value)) : gcells (qs ++ rs) = gcells qs ++ gcells rs := by simp [gcells]
theorem gcells_len (qs : List (P × Value)) : (gcells qs).length = qs.length * 4 := by
  induction qs with
  | nil => rfl
  | cons q qs ih => simp only [gcells, List.flatMap_cons, List.length_append, List.length_cons] at *; rw [ih]; simp [pcells]; omega
theorem gcells_get : ∀ (qs : List (P × Value)) (i j : Nat) (hi : i < qs.length) (hj : j < 4), (gcells qs)[4 * i + j]? = (pcells qs[i].1 qs[i].2).toList[j]?
  | q :: qs, 0, j, _, hj => by
    show ((pcells q.1 q.2).toList ++ gcells qs)[4 * 0 + j]? = _
    rw [Nat.mul_zero, Nat.zero_add, List.getElem?_append_left (by simp [pcells]; omega)]
    rfl
  | q :: qs, i + 1, j, hi, hj => by
    show ((pcells q.1 q.2).toList ++ gcells qs)[4 * (i + 1) + j]? = _
    have hl : (pcells q.1 q.2).toList.length = 4 := by simp [pcells]
    rw [List.getElem?_append_right (by rw [hl]; omega), hl, show 4 * (i + 1) + j - 4 = 4 * i + j by omega, gcells_get qs i j (by simpa using hi) hj]
    rfl
/-- The payloads of packets. -/
def paysA (qs : List (P × Value)) : Ast where
  holds w F := (∀ q ∈ qs, Sl w 5 .u8 q.2 q.1.pay ∧ ∃ A n c, q.2 = .slice A n c) ∧ F = fun i => ∃ q ∈ qs, q.2.ownBlock = some i
  lt := fun ⟨h, e⟩ hk => by subst e; obtain ⟨q, hq, hb⟩ := hk; exact (h q hq).1.lt hb
  move := fun ⟨h, e⟩ hs => by subst e; exact ⟨fun q hq => ⟨(h q hq).1.of_same fun g hg => hs g ⟨q, hq, hg⟩, (h q hq).2⟩, rfl⟩
theorem Hp_pays_nil {W w : World} {l : List Ast} (h : Hp W w l) : Hp W w (paysA [] :: l) := h.new (Below.refl _ _) (A' := paysA []) (F' := fun i => ∃ q ∈ ([] : List (P × Value)), q.2.ownBlock = some i) ⟨fun q hq => (by cases hq), rfl⟩ (fun i e => (by obtain ⟨q, hq, _⟩ := e; cases hq))
theorem Hp_pays_add {W w : World} {l : List Ast} {qs : List (P × Value)} {p : P} {u : Value} (h : Hp W w (paysA qs :: slA 5 .u8 u p.pay :: l)) : Hp W w (paysA (qs ++ [(p, u)]) :: l) :=
  h.both.say fun F hF => by
    obtain ⟨F1, F2, ⟨h1, e1⟩, ⟨h2, e2⟩, _, e⟩ := hF
    refine ⟨fun q hq => ?_, ?_⟩
    · rcases List.mem_append.1 hq with hq | hq
      · exact h1 q hq
      · simp only [List.mem_singleton] at hq
        subst hq
        exact ⟨h2, h2.shape⟩
    · subst e e1 e2
      funext i
      simp only [List.mem_append, List.mem_singleton, or_and_right, exists_or, exists_eq_left, eq_iff_iff]
theorem Hp_pays_join {W w : World} {l : List Ast} {qs rs : List (P × Value)} (h : Hp W w (paysA qs :: paysA rs :: l)) : Hp W w (paysA (qs ++ rs) :: l) :=
  h.both.say fun F hF => by
    obtain ⟨F1, F2, ⟨h1, e1⟩, ⟨h2, e2⟩, _, e⟩ := hF
    refine ⟨fun q hq => (List.mem_append.1 hq).elim (h1 q) (h2 q), ?_⟩
    subst e e1 e2
    funext i
    simp only [List.mem_append, or_and_right, exists_or, eq_iff_iff]
theorem Hp_pays {W w : World} {l : List Ast} {qs : List (P × Value)} (h : Hp W w (paysA qs :: l)) : ∀ q ∈ qs, Sl w 5 .u8 q.2 q.1.pay ∧ ∃ A n c, q.2 = .slice A n c := by obtain ⟨F, h1, _⟩ := h.open1; exact h1.1
theorem Hp_bset2 {W w : World} {l : List Ast} {g : Nat} {t : TypeId} {a b : Value} (h : Hp W w (blkA g t #[a, b] :: l)) (x y : Value) : Hp W ((w.setCell ⟨g, 1, none⟩ x).setCell ⟨g, 0, none⟩ y) (blkA g t #[y, x] :: l) := (h.bset 1 x).bset 0 y
theorem Lies.rowd {w : World} {e : TypeId} {g cap : Nat} {xs : List Int} (h : RowI w e .u8 g cap xs) (o : Nat) : Lies w (some ⟨g, o, none⟩) (xs.drop o) := .inr ⟨g, o, rfl, fun j hj => by
  rw [List.length_drop] at hj
  rw [h.cell (by omega), List.getElem_drop]⟩
theorem Lies.src {w : World} {A : Option Addr} {xs : List Int} {n c : Nat} (h : Lies w A xs) (hn : xs.length = n) : Src w .u8 (.slice A n c) xs := by
  subst hn
  rcases h with rfl | ⟨g, off, rfl, h⟩
  · exact ⟨A, c, rfl, fun h => by simp at h⟩
  · refine ⟨_, c, rfl, fun _ => ⟨_, rfl, fun j hj => ?_⟩⟩
    rw [show (Addr.add ⟨g, off, none⟩ j) = ⟨g, off + j, none⟩ by unfold Addr.add; split <;> simp_all]
    exact h j hj
theorem eql_nil2 (w : World) : (binOp .eql 23 (.slice none 0 0) (.slice none 0 0)).run Try.prog w = .ok (.bool true) w := by
  have h : ∀ d : Nat, (Op.equalIn (d + 1) 23 (.slice none 0 0) (.slice none 0 0)).run Try.prog w = .ok true w := fun d => by
    simp [Op.equalIn, run_underlying Try.underlying23]
  simp only [binOp]
  simp [Op.equal, Op.maxDepth, h 9999]
theorem Clone_nil (w : World) : Calls Try.prog 20 #[.slice none 0 0] w fun e w' => e = .returned (.slice none 0 0) ∧ w' = w := by
  have hne := eql_nil2
  go_enter Try.func20, Try.ntmps20
  go_wp2_with fail
  go_ret
  exact ⟨rfl, rfl⟩
theorem Feed_none (w : World) (A : Option Addr) (n c : Nat) : Calls Try.prog 13 #[.pointer none, .slice A n c] w fun e w' => e = .returned (.slice none 0 0) ∧ w' = w := by
  go_enter Try.func13, Try.ntmps13
  go_wp2_with fail
  go_ret
  exact ⟨rfl, rfl⟩
theorem Lost_none (w : World) : Calls Try.prog 15 #[.pointer none] w fun e w' => e = .returned (.int .i64 0) ∧ w' = w := by
  go_enter Try.func15, Try.ntmps15
  go_wp2_with fail
  go_ret
  exact ⟨rfl, rfl⟩
theorem Left_none (w : World) : Calls Try.prog 16 #[.pointer none] w fun e w' => e = .returned (.int .i64 0) ∧ w' = w := by
  go_enter Try.func16, Try.ntmps16
  go_wp2_with fail
  go_ret
  exact ⟨rfl, rfl⟩
theorem Lost_h {w : World} {g : Nat} {v : Value} {x : Int} (h : Blk w g 41 #[v, .int .i64 x]) : Calls Try.prog 15 #[.pointer (some ⟨g, 0, none⟩)] w fun e w' => e = .returned (.int .i64 x) ∧ w' = w := by
  have q1 := h.cell (i := 1) rfl
  go_enter Try.func15, Try.ntmps15
  go_wp2_with fail
  go_ret
  exact ⟨rfl, rfl⟩
theorem Left_h {w : World} {g : Nat} {A : Option Addr} {n c : Nat} {u : Value} (h : Blk w g 41 #[.slice A n c, u]) : Calls Try.prog 16 #[.pointer (some ⟨g, 0, none⟩)] w fun e w' => e = .returned (.int .i64 n) ∧ w' = w := by
  have q0 := h.cell (i := 0) rfl
  go_enter Try.func16, Try.ntmps16
  go_wp2_with fail
  go_ret
  exact ⟨rfl, rfl⟩
set_option maxHeartbeats 4000000 in
/-- Bytes behind those that were left. -/
theorem Feed_h {W w : World} {L : List Ast} {gr : Nat} {vb : Value} {lost : Nat} {old bs : List Int} {A : Option Addr} {n0 c0 : Nat} (H : Hp W w (blkA gr 41 #[vb, .int .i64 (lost : Int)] :: slA 5 .u8 vb old :: L)) (rd : Src w .u8 (.slice A n0 c0) bs)
    (hb : Bytes (old ++ bs)) (hl : (old ++ bs).length ≤ 100000) (hlo : lost ≤ 100000) (hn : 0 < (old ++ bs).length) :
    Calls Try.prog 13 #[.pointer (some ⟨gr, 0, none⟩), .slice A n0 c0] w fun e w' => ∃ A1 n1 c1 v' qs, e = .returned v' ∧ qs.map (·.1) = (all (old ++ bs)).1 ∧
      Hp W w' (blkA gr 41 #[.slice A1 n1 c1, .int .i64 ((lost + (all (old ++ bs)).2.1 : Nat) : Int)] :: slA 5 .u8 (.slice A1 n1 c1) (all (old ++ bs)).2.2 :: vsA 25 4 v' qs.length (gcells qs) :: paysA qs :: L) := by
  have LL := Lib.hid hl
  have S0 := Lib.hid rd
  have BB := Lib.hid hb
  obtain ⟨Ab, nb, cb, rfl⟩ := H.pk [1] |>.sl.shape
  have H0 : Hid (Hp W w (slA 5 .u8 (.slice Ab nb cb) old :: blkA gr 41 #[.slice Ab nb cb, .int .i64 (lost : Int)] :: L)) := Lib.hid H.swap
  have q0 := H.blk.cell (i := 0) rfl
  have q1 := H.blk.cell (i := 1) rfl
  have fz := fun i => H.blk.free i
  obtain ⟨xs, hxs⟩ : ∃ xs, old ++ bs = xs := ⟨_, rfl⟩
  obtain ⟨n, hxn⟩ : ∃ n, xs.length = n := ⟨_, rfl⟩
  have HX := Lib.hid hxs
  have XN := Lib.hid hxn
  have e : old.length + bs.length = n := by rw [← List.length_append, hxs]; exact hxn
  rw [hxs] at LL BB hn ⊢
  rw [hxn] at hn
  clear H rd hb hl hxs hxn
  go_enter Try.func13, Try.ntmps13
  go_wp2_with (at_builtin; refine wpList_add (.tmp 15) (.tmp 16) 23 5 .u8 0 1 rfl rfl Try.underlying23 info_u8 _ _ old bs rfl rfl H0.out.sl S0.out (by have := LL.out; rw [← HX.out, List.length_append] at this; omega) (by have := LL.out; rw [← HX.out, List.length_append] at this; omega) ?_
               intro v1 w1 hp
               have h1 := H0.out.added hp (Nat.le_refl _)
               rw [HX.out] at h1
               obtain ⟨g, c, rfl, r1⟩ := Sl_some h1.sl (by rw [XN.out]; exact hn)
               have h2 := (h1.say (A' := rowA 5 .u8 g c xs) (fun F hF => ⟨r1, by rw [hF.2]; funext i; simp [Value.ownBlock, eq_comm]⟩)).swap
               have z0 := h2.blk.cell (i := 0) rfl
               have z1 := h2.blk.cell (i := 1) rfl
               have fy := fun i => h2.blk.free i
               have H1 : Hid (Hp W (w1.setCell ⟨gr, 0, none⟩ (.slice (some ⟨g, 0, none⟩) n c)) (blkA gr 41 #[.slice (some ⟨g, 0, none⟩) n c, .int .i64 (lost : Int)] :: rowA 5 .u8 g c xs :: L)) := Lib.hid (h2.bset 0 _)
               clear hp S0 h1 h2 r1 H0 q0 q1 fz)
  have H2 : Hid (Hp W (w1.setCell ⟨gr, 0, none⟩ (.slice (some ⟨g, 0, none⟩) n c)) (blkA gr 41 #[.slice (some ⟨g, 0, none⟩) n c, .int .i64 (lost : Int)] :: rowA 5 .u8 g c xs :: vsA 25 4 (.slice none 0 0) 0 [] :: paysA [] :: L)) := Lib.hid ((Hp_pays_nil H1.out).vs_nil 25 4).up3.up3
  rw [XN.out]
  have CN : n ≤ c := by have := RowI.fits H2.out.drop.row; rw [XN.out] at this; exact this
  clear z0 z1 fy H1 e
  go_loopg [5] n (fun m v wr => ∃ k lo qs A c2 o cc, k + m = n ∧ (o = k ∨ m = 0) ∧ m ≤ cc ∧ lo ≤ lost + k ∧ qs.length ≤ k ∧ v = .slice A qs.length c2 ∧ Hid (Hp W wr (blkA gr 41 #[.slice (some ⟨g, o, none⟩) m cc, .int .i64 ((lo : Nat) : Int)] :: rowA 5 .u8 g c xs :: vsA 25 4 (.slice A qs.length c2) qs.length (gcells qs) :: paysA qs :: L)) ∧
      Hid ((all xs).1 = qs.map (·.1) ++ (all (xs.drop k)).1 ∧ lost + (all xs).2.1 = lo + (all (xs.drop k)).2.1 ∧ (all xs).2.2 = (all (xs.drop k)).2.2))
  case atStart => exact ⟨0, lost, [], none, 0, 0, c, by omega, .inl rfl, CN, by omega, by simp, rfl, H2, Lib.hid ⟨rfl, rfl, rfl⟩⟩
  case round =>
    clear H2
    obtain ⟨k, lo, qs, A1, c2, o, cc, hk, hok, hcc, hlk, hql, rfl, HC, HA⟩ := hrel
    have q0 := HC.out.blk.cell (i := 0) rfl
    have q1 := HC.out.blk.cell (i := 1) rfl
    have fz := fun i => HC.out.blk.free i
    have RW := Lib.hid (HC.out.drop.row)
    by_cases hm : gk = 0
    · subst hm
      have AL := Lib.hid (show all (xs.drop k) = ([], 0, xs.drop k) by rw [List.drop_eq_nil_of_le (by rw [XN.out]; omega)]; rfl)
      have zz : decide ((0 : Int) < 0) = false := by decide
      have LD0 : (xs.drop k).length = 0 := by rw [List.length_drop, XN.out]; omega
      have SC : Hid (Src wr .u8 (.slice (some ⟨g, o, none⟩) 0 cc) (xs.drop k)) := Lib.hid (by rw [List.eq_nil_of_length_eq_zero LD0]; exact ⟨_, cc, rfl, fun h => by simp at h⟩)
      go_wp2_with fail
      refine (Clone_h HC.out (ad := ⟨g, o, none⟩) (n := 0) (c := cc) SC.out LD0 (by have := LL.out; rw [List.length_drop]; omega)).mono ?_
      rintro e9 w9 ⟨v9, rfl, h9⟩
      obtain ⟨A9, n9, c9, rfl⟩ := h9.sl.shape
      have H9 := Lib.hid h9.swap.up2.drop
      clear h9 q0 q1 fz
      have z0 := H9.out.blk.cell (i := 0) rfl
      have z1 := H9.out.blk.cell (i := 1) rfl
      have fz := fun i => H9.out.blk.free i
      have HZ := Lib.hid (H9.out.bset 0 (.slice A9 n9 c9))
      go_wp2_with fail
      go_ret
      obtain ⟨a1, a2, a3⟩ := HA.out
      rw [AL.out] at a1 a2 a3
      refine ⟨A9, n9, c9, _, qs, rfl, by rw [a1]; simp, ?_⟩
      rw [a2, a3]
      exact HZ.out

    obtain rfl : o = k := by omega
    have kn : o < n := by omega
    have SC : Hid (Src wr .u8 (.slice (some ⟨g, o, none⟩) gk cc) (xs.drop o)) := Lib.hid (Lies.src (Lies.rowd RW.out o) (by rw [List.length_drop, XN.out]; omega))
    have gp : decide ((0 : Int) < (gk : Int)) = true := decide_eq_true (by omega)
    have gp2 : (0 : Int) < (gk : Int) := by omega
    have LD : Hid ((xs.drop o).length = gk) := Lib.hid (by rw [List.length_drop, XN.out]; omega)
    have PA := Lib.hid (Parse_h (c := cc) (Lies.rowd RW.out o) LD.out (fun x hx => BB.out x (List.mem_of_mem_drop hx)) (by have := LL.out; rw [XN.out] at this; omega) hcc)
    go_wp2_with fail
    refine PA.out.mono ?_
    intro e5 w5 hp
    unfold PPost at hp
    rcases hp with ⟨p, n1, v, hps, rfl, hh⟩ | ⟨er, hps, rfl, hb5⟩
    · obtain ⟨A2, n2, c2', rfl⟩ := hh.sl.shape
      have H5 := Lib.hid (HC.out.add_sl hh.b hh.sl (slA_ge hh))
      obtain ⟨pn1, pn2, _⟩ := parse_some hps
      rw [LD.out] at pn2
      have AS := Lib.hid (all_some hps)
      clear hh PA hps q0 q1 fz HC
      obtain ⟨gq, hgq⟩ : ∃ gq, w5.heap.size = gq := ⟨_, rfl⟩
      have h6 := H5.out.new_blk 25 (pcells p (.slice A2 n2 c2'))
      have H7 := Lib.hid (h6.alloc (.cells (pcells p (.slice A2 n2 c2')) 25))
      have SB := Lib.hid (SrcV.built (w5.alloc (.cells (pcells p (.slice A2 n2 c2')) 25)) 25 (pcells p (.slice A2 n2 c2')).toList 1 4 1 rfl)
      clear h6
      simp only [pcells] at H7 SB ⊢
      rw [hgq] at H7
      rw [show (w5.alloc (Obj.cells #[Value.int IntKind.u32 p.ep, Value.int IntKind.u32 p.nu, Value.bool p.wh, Value.slice A2 n2 c2'] 25)).heap.size = gq + 1 by simp [hgq]] at SB
      go_wp2_with (at_builtin; refine wpList_addV (.tmp 46) (.tmp 48) 42 25 (.agg zcells) 4 40 rfl rfl Try.underlying42 info_pkt rfl (by decide) _ _ qs.length 1 (gcells qs) (pcells p (.slice A2 n2 c2')).toList rfl rfl H7.out.up4.vs SB.out (fun u hu => by simp [pcells] at hu; rcases hu with rfl | rfl | rfl | rfl <;> rfl) (by have := LL.out; rw [XN.out] at this; omega) (by have := LL.out; rw [XN.out] at this; omega) ?_
                   intro v1 w6 hp
                   have h8 := H7.out.up4.addedV hp (Nat.le_refl _)
                   obtain ⟨A3, c3, rfl, _⟩ := ownsRow_form h8.vs
                   rw [show gcells qs ++ (pcells p (.slice A2 n2 c2')).toList = gcells (qs ++ [(p, .slice A2 n2 c2')]) by simp [gcells_app, gcells]] at h8
                   have H9 := Lib.hid (Hp_pays_add h8.up1.drop.up4.up2.swap).swap.up3.up3
                   clear hp h8 H7 SB
                   have z0 := H9.out.blk.cell (i := 0) rfl
                   have z1 := H9.out.blk.cell (i := 1) rfl
                   have fz := fun i => H9.out.blk.free i
                   have i1 : (n1 : Int) ≤ (gk : Int) := by omega
                   have i2 : n1 ≤ cc := by omega)
      · go_roundg (gk - n1)
        case rel =>
          obtain ⟨a1, a2, a3⟩ := HA.out
          rw [AS.out, List.drop_drop] at a1 a2 a3
          exact ⟨o + n1, lo, qs ++ [(p, .slice A2 n2 c2')], A3, c3, o, 0, by omega, .inr (by omega), by omega, by omega, by simp; omega, by simp, Lib.hid (by simp only [List.length_append, List.length_singleton]; exact H9.out.bset 0 _), Lib.hid ⟨by rw [a1]; simp, a2, a3⟩⟩
        case measure => omega
      · go_roundg (gk - n1)
        case rel =>
          obtain ⟨a1, a2, a3⟩ := HA.out
          rw [AS.out, List.drop_drop] at a1 a2 a3
          exact ⟨o + n1, lo, qs ++ [(p, .slice A2 n2 c2')], A3, c3, o + n1, cc - n1, by omega, .inl rfl, by omega, by omega, by simp; omega, by simp, Lib.hid (by simp only [List.length_append, List.length_singleton]; exact H9.out.bset 0 _), Lib.hid ⟨by rw [a1]; simp, a2, a3⟩⟩
        case measure => omega
    · obtain ⟨_, er0, er2⟩ := parse_none hps
      have HC5 := Lib.hid ((HC.out.keep hb5).alloc (.cells #[.int .u32 0, .int .u32 0, .bool false, .slice none 0 0] 25))
      have q0' := HC5.out.blk.cell (i := 0) rfl
      have q1' := HC5.out.blk.cell (i := 1) rfl
      have fz' := fun i => HC5.out.blk.free i
      have RW5 := Lib.hid (HC5.out.drop.row)
      have SC5 : Hid (Src (w5.alloc (.cells #[.int .u32 0, .int .u32 0, .bool false, .slice none 0 0] 25)) .u8 (.slice (some ⟨g, o, none⟩) gk cc) (xs.drop o)) := Lib.hid (Lies.src (Lies.rowd RW5.out o) LD.out)
      have ne : xs.drop o ≠ [] := fun h => by have := LD.out; rw [h] at this; simp at this; omega
      clear q0 q1 fz HC PA hb5 RW SC
      have q0 := q0'
      have q1 := q1'
      have fz := fz'
      have HC := HC5
      have SC := SC5
      have LDo := LD.out
      clear q0' q1' fz' HC5 SC5
      by_cases h2 : er = 2
      · subst h2
        have AL := Lib.hid (all_cut ne hps)
        simp only [zcells]
        go_wp2_with fail
        refine (Clone_h HC.out (ad := ⟨g, o, none⟩) (n := gk) (c := cc) SC.out LDo (by have := LL.out; rw [List.length_drop]; omega)).mono ?_
        rintro e9 w9 ⟨v9, rfl, h9⟩
        obtain ⟨A9, n9, c9, rfl⟩ := h9.sl.shape
        have H9 := Lib.hid h9.swap.up2.drop
        clear h9 q0 q1 fz
        have z0 := H9.out.blk.cell (i := 0) rfl
        have z1 := H9.out.blk.cell (i := 1) rfl
        have fz := fun i => H9.out.blk.free i
        have HZ := Lib.hid (H9.out.bset 0 (.slice A9 n9 c9))
        go_wp2_with fail
        go_ret
        obtain ⟨a1, a2, a3⟩ := HA.out
        rw [AL.out] at a1 a2 a3
        refine ⟨A9, n9, c9, _, qs, rfl, by rw [a1]; simp, ?_⟩
        rw [a2, a3]
        exact HZ.out

      · have AL := Lib.hid (all_lost ne hps h2)
        have e2 : (er == 2) = false := by rw [beq_eq_false_iff_ne]; exact h2
        have e3 : (er == 0) = false := by rw [beq_eq_false_iff_ne]; exact er0
        have nb : n ≤ 100000 := by have := LL.out; rw [XN.out] at this; exact this
        have i1 : IntKind.i64.wrap ((lo : Int) + 1) = (lo : Int) + 1 := IntWalk.i64_in _ (by omega)
        have i0 : wrap64 ((lo : Int) + 1) = (lo : Int) + 1 := by unfold wrap64; omega
        have z1 : (1 : Int) ≤ (gk : Int) := by omega
        have z2 : 1 ≤ cc := by omega
        have z3 : 1 ≤ gk := by omega
        simp only [zcells]
        go_wp2_with fail
        · clear i0 i1
          go_roundg (gk - 1)
          case rel =>
            obtain ⟨a1, a2, a3⟩ := HA.out
            rw [AL.out, List.drop_drop] at a1 a2 a3
            exact ⟨o + 1, lo + 1, qs, A1, c2, o, 0, by omega, .inr (by omega), by omega, by omega, by omega, rfl, Lib.hid (by rw [show ((lo + 1 : Nat) : Int) = (lo : Int) + 1 by omega]; exact Hp_bset2 HC.out _ _), Lib.hid ⟨a1, by rw [a2]; simp only; omega, a3⟩⟩
          case measure => omega
        · clear i0 i1
          go_roundg (gk - 1)
          case rel =>
            obtain ⟨a1, a2, a3⟩ := HA.out
            rw [AL.out, List.drop_drop] at a1 a2 a3
            exact ⟨o + 1, lo + 1, qs, A1, c2, o + 1, cc - 1, by omega, .inl rfl, by omega, by omega, by omega, rfl, Lib.hid (by rw [show ((lo + 1 : Nat) : Int) = (lo : Int) + 1 by omega]; exact Hp_bset2 HC.out _ _), Lib.hid ⟨a1, by rw [a2]; simp only; omega, a3⟩⟩
          case measure => omega
end Go.Proofs.Ytdekdcleeignoaa.Pk
