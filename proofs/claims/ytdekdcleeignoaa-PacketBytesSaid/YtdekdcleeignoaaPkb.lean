/-
  Packets: any packet's bytes, and what they are parsed to. No condition but those told.
-/
import Derived.Test.YtdekdcleeignoaaPkl
set_option linter.unusedVariables false
set_option linter.unusedSimpArgs false
namespace Go.Proofs.Ytdekdcleeignoaa.Pk
open Go.RowKit Go.Proofs.Ytdekdcleeignoaa Go.Proofs.YtdekdcleeignoaaW.PrintWords
open Go.ChangeShapes Go.WideShapes Go.Deep
/-- A packet as it comes in. -/
structure PArg where
  (ep nu : Int) (wh : Bool) (A : Option Addr) (n c : Nat) (zs : List Int)
def PArg.val (z : PArg) : Value := .agg #[.int .u32 z.ep, .int .u32 z.nu, .bool z.wh, .slice z.A z.n z.c]
theorem packet_open {H : Type} {enc : TypeId × Value → H} {w : World} {base : Nat} {held : Bool} {r : Reach} {b0 : Nat} {v : Value} {d : DataW H} {p : List MemPlace}
    (hv : Value.okWide Try.prog w r b0 25 v) (h : DataW.Trod enc Try.prog w base (fun _ => true) held 25 v d p) :
    ∃ z : PArg, v = z.val ∧ ((0 ≤ z.ep ∧ z.ep < 4294967296) ∧ (0 ≤ z.nu ∧ z.nu < 4294967296) ∧ IsRow .u8 w z.A z.n z.c z.zs) := by
  obtain ⟨cs, rfl, hsz, _⟩ : ∃ cs, v = .agg cs ∧ cs.size = Try.prog.cellsOf 25 ∧ Row.okWide Try.prog w r b0 25 cs := by simpa [Value.okWide, Try.underlying25] using hv
  have hC : Try.prog.cellsOf 25 = 4 := by kernel_rfl
  rw [hC] at hsz
  obtain ⟨l⟩ := cs
  match l, hsz with
  | [c0, c1, c2, c3], _ =>
    obtain ⟨fuel, hf⟩ := h
    have L := Op.open_leafs 1 0 fuel 25 [c0, c1, c2, c3] _ (by simpa [Value.cells] using hf) (by kernel_rfl) (by rw [hC]; rfl)
    rw [show Op.leafs Try.prog 1 0 25 = [(0, 22), (1, 22), (2, 4), (3, 23)] by kernel_rfl] at L
    obtain ⟨i0, v0, y0, m0, e0, _, g0, t0⟩ := L (0, 22) (by simp)
    obtain ⟨i1, v1, y1, m1, e1, _, g1, t1⟩ := L (1, 22) (by simp)
    obtain ⟨i2, v2, y2, m2, e2, _, g2, t2⟩ := L (2, 4) (by simp)
    obtain ⟨i3, v3, y3, m3, e3, _, g3, t3⟩ := L (3, 23) (by simp)
    simp only [Nat.zero_add] at e0 e1 e2 e3
    subst e0 e1 e2 e3
    simp at g0 g1 g2 g3
    subst g0 g1 g2 g3
    obtain ⟨x0, rfl, w0⟩ := Op.leaf_int Try.underlying22 t0
    obtain ⟨x1, rfl, w1⟩ := Op.leaf_int Try.underlying22 t1
    obtain ⟨b2, rfl⟩ := Op.leaf_bool Try.underlying4 t2
    have wf : ∀ n : Int, (Lit.int .u32 n).wf = true → 0 ≤ n ∧ n < 4294967296 := fun n h => by
      simp only [Lit.wf, Bool.and_eq_true, decide_eq_true_eq] at h
      have e1 : IntKind.min .u32 = 0 := by decide
      have e2 : IntKind.max .u32 = 4294967295 := by decide
      rw [e1, e2] at h
      omega
    have q0 := wf _ w0
    have q1 := wf _ w1
    clear wf
    rcases open_ints Try.underlying23 Try.underlying5 (by kernel_rfl) t3 with ⟨hcs, _⟩ | ⟨x, l, c, zs, hcs, _, hl, hm, hz, _, hcell, hwz⟩
    · simp at hcs
      subst hcs
      exact ⟨⟨x0, x1, b2, none, 0, 0, []⟩, rfl, q0, q1, .inl ⟨rfl, rfl, rfl, rfl⟩⟩
    · simp at hcs
      subst hcs
      exact ⟨⟨x0, x1, b2, some x, l, c, zs⟩, rfl, q0, q1, .inr ⟨_, rfl, hl, hm, by simpa using hz, hcell, hwz⟩⟩
set_option maxHeartbeats 1000000 in
theorem bytes_out (ep nu : Int) (wh : Bool) (A : Option Addr) (n c : Nat) (a1 : Option Addr) (len1 cap1 : Nat) (W : World) (hb : 800 < n ∨ 100 < len1) :
    Calls Try.prog 3 #[.agg #[.int .u32 ep, .int .u32 nu, .bool wh, .slice A n c], .slice a1 len1 cap1] W fun e w' => e = .returned (.bool true) ∧ Below W.heap.size W w' := by
  rcases (show 800 < n ∨ (¬ 800 < n ∧ 100 < len1) by omega) with h | ⟨h, h2⟩
  · have k1 : decide ((800 : Int) < (n : Int)) = true := decide_eq_true (by omega)
    clear hb h
    go_enter Try.func3, Try.ntmps3
    go_wp2_with fail
    have H0 := Lib.hid ((Hp.nil W).new_blk 25 #[.int .u32 ep, .int .u32 nu, .bool wh, .slice A n c])
    refine (lives_h _).mono ?_
    rintro e1 w1 ⟨rfl, b1⟩
    have H1 := Lib.hid (H0.out.keep b1)
    have q3 := H1.out.blk.cell (i := 3) rfl
    clear b1
    go_wp2_with fail
    refine (lives_h _).mono ?_
    rintro e2 w2 ⟨rfl, b2⟩
    have H2 := Lib.hid (H1.out.keep b2)
    clear b2
    go_wp2_with fail
    go_ret
    exact ⟨rfl, H2.out.b⟩
  · have k1 : decide ((800 : Int) < (n : Int)) = false := decide_eq_false (by omega)
    have k2 : decide ((100 : Int) < (len1 : Int)) = true := decide_eq_true (by omega)
    clear hb h h2
    go_enter Try.func3, Try.ntmps3
    go_wp2_with fail
    have H0 := Lib.hid ((Hp.nil W).new_blk 25 #[.int .u32 ep, .int .u32 nu, .bool wh, .slice A n c])
    refine (lives_h _).mono ?_
    rintro e1 w1 ⟨rfl, b1⟩
    have H1 := Lib.hid (H0.out.keep b1)
    have q3 := H1.out.blk.cell (i := 3) rfl
    clear b1
    go_wp2_with fail
    refine (lives_h _).mono ?_
    rintro e2 w2 ⟨rfl, b2⟩
    have H2 := Lib.hid (H1.out.keep b2)
    clear b2
    go_wp2_with fail
    go_ret
    exact ⟨rfl, H2.out.b⟩
set_option maxHeartbeats 1000000 in
theorem bytes_long (ep nu : Int) (wh : Bool) (A : Option Addr) (n c : Nat) (a1 : Option Addr) (len1 cap1 : Nat) (W : World) (h0 : n ≤ 800) (h1 : len1 ≤ 100) (h2 : 600 < n) :
    Calls Try.prog 3 #[.agg #[.int .u32 ep, .int .u32 nu, .bool wh, .slice A n c], .slice a1 len1 cap1] W fun e w' => e = .returned (.bool true) ∧ Below W.heap.size W w' := by
  have k1 : decide ((800 : Int) < (n : Int)) = false := decide_eq_false (by omega)
  have k2 : decide ((100 : Int) < (len1 : Int)) = false := decide_eq_false (by omega)
  have k3 : decide ((600 : Int) < (n : Int)) = true := decide_eq_true (by omega)
  have H0 := Lib.hid ((Hp.nil W).new_blk 25 #[.int .u32 ep, .int .u32 nu, .bool wh, .slice A n c])
  go_enter Try.func3, Try.ntmps3
  go_wp2_with fail
  refine (lives_h _).mono ?_
  rintro e1 w1 ⟨rfl, b1⟩
  have H1 := Lib.hid (H0.out.keep b1)
  have q0 := H1.out.blk.cell (i := 0) rfl
  have q1 := H1.out.blk.cell (i := 1) rfl
  have q2 := H1.out.blk.cell (i := 2) rfl
  have q3 := H1.out.blk.cell (i := 3) rfl
  clear b1
  go_wp2_with fail
  refine (Bytes_long ep nu wh h2).mono ?_
  rintro e2 w2 ⟨rfl, b2⟩
  have H2 := Lib.hid (H1.out.keep b2)
  clear q0 q1 q2 q3 b2
  have q3 := H2.out.blk.cell (i := 3) rfl
  go_wp2_with fail
  go_ret
  exact ⟨rfl, H2.out.b⟩
set_option maxHeartbeats 4000000 in
theorem bytes_main (ep nu : Int) (wh : Bool) (A : Option Addr) (c : Nat) (pay : List Int) (a1 : Option Addr) (cap1 : Nat) (more : List Int) (W : World) (ok : (P.mk ep nu wh pay).Ok) (rd : Src W .u8 (.slice A pay.length c) pay) (rm : Src W .u8 (.slice a1 more.length cap1) more) (hm : Bytes more) (h0 : pay.length ≤ 600) (h1 : more.length ≤ 100) :
    Calls Try.prog 3 #[.agg #[.int .u32 ep, .int .u32 nu, .bool wh, .slice A pay.length c], .slice a1 more.length cap1] W fun e w' => e = .returned (.bool true) ∧ Below W.heap.size W w' := by
  have k1 : decide ((800 : Int) < (pay.length : Int)) = false := decide_eq_false (by omega)
  have k2 : decide ((100 : Int) < (more.length : Int)) = false := decide_eq_false (by omega)
  have k3 : decide ((600 : Int) < (pay.length : Int)) = false := decide_eq_false (by omega)
  have OK := Lib.hid ok
  have RD := Lib.hid rd
  have RM := Lib.hid rm
  have bl : Hid ((bts ⟨ep, nu, wh, pay⟩).length = 17 + pay.length) := Lib.hid (bts_len _)
  have bb : Hid (Bytes (bts ⟨ep, nu, wh, pay⟩)) := Lib.hid (bts_bytes ok.2.2)
  have HM := Lib.hid hm
  have pb : Hid (parse (bts ⟨ep, nu, wh, pay⟩ ++ more) = (some ⟨ep, nu, wh, pay⟩, 17 + pay.length, 0)) := Lib.hid (parse_bts ok h0 more hm)
  have H0 := Lib.hid ((Hp.nil W).new_blk 25 #[.int .u32 ep, .int .u32 nu, .bool wh, .slice A pay.length c])
  obtain ⟨bs, hbs⟩ : ∃ bs, bts ⟨ep, nu, wh, pay⟩ = bs := ⟨_, rfl⟩
  have HB := Lib.hid hbs
  rw [hbs] at bl bb pb
  rw [← bl.out] at pb
  have b6 : (bs.length : Int) ≤ 617 := by rw [bl.out]; omega
  have OFC : Hid (∀ w : World, Calls Try.prog 10 #[.agg #[.int .u32 ep, .int .u32 nu, .bool wh, .slice A pay.length c]] w fun e w' => e = .returned (.agg #[.int .u32 ep, .int .u32 nu, .bool wh, .slice A pay.length c]) ∧ Below w.heap.size w w') := Lib.hid (fun w => by
    have ofc := of_h (w := w) (a := A) (n := pay.length) (c := c) ⟨ep, nu, wh, pay⟩
    simpa only [pcells] using ofc)
  clear hbs ok rd rm hm
  go_enter Try.func3, Try.ntmps3
  go_wp2_with fail
  refine (lives_h _).mono ?_
  rintro e1 w1 ⟨rfl, b1⟩
  have H1 := Lib.hid (H0.out.keep b1)
  have q0 := H1.out.blk.cell (i := 0) rfl
  have q1 := H1.out.blk.cell (i := 1) rfl
  have q2 := H1.out.blk.cell (i := 2) rfl
  have q3 := H1.out.blk.cell (i := 3) rfl
  clear b1
  go_wp2_with fail
  refine (Bytes_h H1.out ep nu wh pay OK.out (Rd.arg RD.out) h0).mono ?_
  rintro e2 w2 ⟨v5, rfl, h2⟩
  rw [HB.out] at h2
  obtain ⟨g5, c5, rfl, r5⟩ := Sl_some h2.sl (by rw [bl.out]; omega)
  have H2 := Lib.hid h2
  have R2 := Lib.hid r5
  clear q0 q1 q2 q3 h2 r5
  have q0 := H2.out.drop.blk.cell (i := 0) rfl
  have q1 := H2.out.drop.blk.cell (i := 1) rfl
  have q2 := H2.out.drop.blk.cell (i := 2) rfl
  have q3 := H2.out.drop.blk.cell (i := 3) rfl
  have S0 := Lib.hid (Sl_empty w2 5 .u8)
  have S1 := Lib.hid (Src.below (Src.of_sl H2.out.sl) ((Below.refl _ _).alloc (Nat.le_refl _) (.cells #[] 5)))
  go_wp2_with (first
    | (at_builtin; refine wpList_add (.tmp 41) (.tmp 42) 23 5 .u8 0 1 rfl rfl Try.underlying23 info_u8 _ _ [] bs rfl rfl S0.out S1.out (by rw [bl.out]; simp; omega) (by rw [bl.out]; simp; omega) ?_
       intro v1 w3 hp
       have bf := added_fresh hp
       have sl1 := hp.sl
       rw [List.nil_append] at sl1 hp
       have h1 := H2.out.add_sl bf.1 sl1 bf.2
       have H3 := Lib.hid h1
       have S2 := Lib.hid (Src.below RM.out H3.out.b)
       clear hp bf sl1 h1 S0 S1)
    | (at_builtin; refine wpList_add (.tmp 43) (.tmp 44) 23 5 .u8 0 1 rfl rfl Try.underlying23 info_u8 _ _ bs more rfl rfl H3.out.sl S2.out (by rw [bl.out]; omega) (by rw [bl.out]; omega) ?_
       intro v1 w4 hp
       have h1 := H3.out.added hp (Nat.le_refl _)
       obtain ⟨g4, c4, rfl, r1⟩ := Sl_some h1.sl (by rw [List.length_append, bl.out]; omega)
       have H4 := Lib.hid h1
       have R4 := Lib.hid r1
       clear hp h1 S2 r1))
  have LQ : Hid ((bs ++ more).length = 17 + pay.length + more.length) := Lib.hid (by rw [List.length_append, bl.out])
  have PA := Lib.hid (Parse_h (c := c4) (Lies.row R4.out) LQ.out (bytes_app bb.out HM.out) (by omega) (by have := RowI.fits R4.out; rw [LQ.out] at this; exact this))
  rw [show bs.length + more.length = 17 + pay.length + more.length by rw [bl.out]]
  refine PA.out.mono ?_
  intro e5 w5 hp
  obtain ⟨A2, m2, c2, rfl, hh⟩ := PPost.flat hp
  rw [pb.out] at hh ⊢
  have h5 := (H4.out.add_sl hh.b hh.sl (slA_ge hh)).pk [0, 1, 1]
  have H5 := Lib.hid h5
  clear hp hh h5 PA q0 q1 q2 q3
  simp only [pcells, Option.getD_some]
  obtain ⟨gq, hgq⟩ : ∃ gq, w5.heap.size = gq := ⟨_, rfl⟩
  have h6 := H5.out.new_blk 25 #[.int .u32 ep, .int .u32 nu, .bool wh, .slice A2 m2 c2]
  rw [hgq] at h6
  have H7 : Hid (Hp W _ [slA 5 .u8 (.slice (some ⟨g5, 0, none⟩) bs.length c5) bs, slA 5 .u8 (.slice A2 m2 c2) pay, blkA gq 25 #[.int .u32 ep, .int .u32 nu, .bool wh, .slice A2 m2 c2], blkA W.heap.size 25 #[.int .u32 ep, .int .u32 nu, .bool wh, .slice A pay.length c]]) := Lib.hid (h6.pk [2, 1, 0, 0])
  clear h6 H5 H4 H3 H2 H1 H0 R4 R2
  go_wp2_with fail
  refine wp_region_noPanic ?_
  refine wp_region_any (by kernel_rfl) ?_
  try (change wpAny _ _ _ _ _ _ _ (World.drew _))
  refine wpAny_of_held (S := fun w => Hp W w [slA 5 .u8 (.slice (some ⟨g5, 0, none⟩) bs.length c5) bs, slA 5 .u8 (.slice A2 m2 c2) pay, blkA gq 25 #[.int .u32 ep, .int .u32 nu, .bool wh, .slice A2 m2 c2], blkA W.heap.size 25 #[.int .u32 ep, .int .u32 nu, .bool wh, .slice A pay.length c]]) _ _ _ _ ?_
  have hHeld := H7.out.drew
  refine wpAnyH_take (i := 0) (v := ?_) rfl (by kernel_rfl) (by kernel_rfl) (by kernel_rfl) (fun _ _ _ h => h) (Or.inl ⟨by kernel_rfl, ?_⟩) hHeld ?_
  rotate_left
  · intro w hSw
    first | (go_simp; done) | (go_simp; with_reducible rfl)
  try simp only [Act.put, List.getElem_toArray, List.getElem_cons_zero, List.getElem_cons_succ, List.setIfInBounds_toArray, List.set_cons_zero, List.set_cons_succ]
  refine wpAnyH_take (i := 1) (v := ?_) rfl (by kernel_rfl) (by kernel_rfl) (by kernel_rfl) (fun _ _ _ h => h) (Or.inl ⟨by kernel_rfl, ?_⟩) hHeld ?_
  rotate_left
  · intro w hSw
    first | (go_simp; done) | (go_simp; with_reducible rfl)
  try simp only [Act.put, List.getElem_toArray, List.getElem_cons_zero, List.getElem_cons_succ, List.setIfInBounds_toArray, List.set_cons_zero, List.set_cons_succ]
  refine wpAnyH_take (i := 2) (v := ?_) rfl (by kernel_rfl) (by kernel_rfl) (by kernel_rfl) (fun _ _ _ h => h) (Or.inl ⟨by kernel_rfl, ?_⟩) hHeld ?_
  rotate_left
  · intro w hSw
    first | (go_simp; done) | (go_simp; with_reducible rfl)
  try simp only [Act.put, List.getElem_toArray, List.getElem_cons_zero, List.getElem_cons_succ, List.setIfInBounds_toArray, List.set_cons_zero, List.set_cons_succ]
  refine wpAnyH_take (i := 3) (v := ?_) rfl (by kernel_rfl) (by kernel_rfl) (by kernel_rfl) (fun _ _ _ h => h) (Or.inl ⟨by kernel_rfl, ?_⟩) hHeld ?_
  rotate_left
  · intro w hSw
    first | (go_simp; done) | (go_simp; with_reducible rfl)
  try simp only [Act.put, List.getElem_toArray, List.getElem_cons_zero, List.getElem_cons_succ, List.setIfInBounds_toArray, List.set_cons_zero, List.set_cons_succ]
  refine wpAnyH_take (i := 4) (v := ?_) rfl (by kernel_rfl) (by kernel_rfl) (by kernel_rfl) (fun _ _ _ h => h) (Or.inl ⟨by kernel_rfl, ?_⟩) hHeld ?_
  rotate_left
  · intro w hSw
    have cvA := Src.str (P := Try.prog) (w := w) (src := 23) (dst := 9) Try.underlying23 Try.underlying5 Try.underlying9 (Src.of_sl (Hp.sl hSw))
    first | (go_simp; done) | (go_simp; with_reducible rfl)
  try simp only [Act.put, List.getElem_toArray, List.getElem_cons_zero, List.getElem_cons_succ, List.setIfInBounds_toArray, List.set_cons_zero, List.set_cons_succ]
  refine wpAnyH_take (i := 5) (v := ?_) rfl (by kernel_rfl) (by kernel_rfl) (by kernel_rfl) (fun _ _ _ h => h) (Or.inl ⟨by kernel_rfl, ?_⟩) hHeld ?_
  rotate_left
  · intro w hSw
    have q0 := (Hp.pk hSw [3]).blk.cell (i := 0) rfl
    have q1 := (Hp.pk hSw [3]).blk.cell (i := 1) rfl
    have q2 := (Hp.pk hSw [3]).blk.cell (i := 2) rfl
    have q3 := (Hp.pk hSw [3]).blk.cell (i := 3) rfl
    first | (go_simp; done) | (go_simp; with_reducible rfl)
  try simp only [Act.put, List.getElem_toArray, List.getElem_cons_zero, List.getElem_cons_succ, List.setIfInBounds_toArray, List.set_cons_zero, List.set_cons_succ]
  refine wpAnyH_ready (rs := [6]) (by kernel_rfl) (by simp) ?_
  refine AllReadyH.cons rfl (fun K hK => ?_) AllReadyH.nil
  go_simp
  go_at_call 10
  refine (OFC.out _).mono ?_
  rintro e9 w9 ⟨rfl, b9⟩
  have H9 := Lib.hid (Hp.keep hHeld b9)
  clear b9
  go_simp
  refine hK.out _ _ (H9.out) (fun hHeld => ?_)
  clear hK K
  try simp only [Act.put, List.getElem_toArray, List.getElem_cons_zero, List.getElem_cons_succ, List.setIfInBounds_toArray, List.set_cons_zero, List.set_cons_succ]
  refine wpAnyH_ready (rs := [7]) (by kernel_rfl) (by simp) ?_
  refine AllReadyH.cons rfl (fun K hK => ?_) AllReadyH.nil
  go_simp
  go_at_call 9
  refine (rBytes_h hHeld ep nu wh pay OK.out (Rd.arg RD.out) (by omega)).mono ?_
  rintro e10 w10 ⟨v6, rfl, h10⟩
  rw [HB.out] at h10
  have H10 : Hid (Hp W w10 [slA 5 .u8 v6 bs, slA 5 .u8 (.slice (some ⟨g5, 0, none⟩) bs.length c5) bs, slA 5 .u8 (.slice A2 m2 c2) pay, blkA gq 25 #[.int .u32 ep, .int .u32 nu, .bool wh, .slice A2 m2 c2], blkA W.heap.size 25 #[.int .u32 ep, .int .u32 nu, .bool wh, .slice A pay.length c]]) := Lib.hid h10
  clear h10
  go_simp
  refine hK.out _ _ (H10.out.drop) (fun hHeld => ?_)
  clear hK K
  try simp only [Act.put, List.getElem_toArray, List.getElem_cons_zero, List.getElem_cons_succ, List.setIfInBounds_toArray, List.set_cons_zero, List.set_cons_succ]
  refine wpAnyH_imp (S := fun w => Hp W w [slA 5 .u8 v6 bs, slA 5 .u8 (.slice (some ⟨g5, 0, none⟩) bs.length c5) bs, slA 5 .u8 (.slice A2 m2 c2) pay, blkA gq 25 #[.int .u32 ep, .int .u32 nu, .bool wh, .slice A2 m2 c2], blkA W.heap.size 25 #[.int .u32 ep, .int .u32 nu, .bool wh, .slice A pay.length c]]) (fun _ h => Hp.drop h) _ _ _ _ ?_
  have hHeld := H10.out
  refine wpAnyH_take (i := 8) (v := ?_) rfl (by kernel_rfl) (by kernel_rfl) (by kernel_rfl) (fun _ _ _ h => h) (Or.inl ⟨by kernel_rfl, ?_⟩) hHeld ?_
  rotate_left
  · intro w hSw
    have cvB := Src.str (P := Try.prog) (w := w) (src := 23) (dst := 9) Try.underlying23 Try.underlying5 Try.underlying9 (Src.of_sl (Hp.sl hSw))
    first | (go_simp; done) | (go_simp; with_reducible rfl)
  try simp only [Act.put, List.getElem_toArray, List.getElem_cons_zero, List.getElem_cons_succ, List.setIfInBounds_toArray, List.set_cons_zero, List.set_cons_succ]
  refine wpAnyH_take (i := 9) (v := ?_) rfl (by kernel_rfl) (by kernel_rfl) (by kernel_rfl) (fun _ _ _ h => h) (Or.inl ⟨by kernel_rfl, ?_⟩) hHeld ?_
  rotate_left
  · intro w hSw
    first | (go_simp; done) | (go_simp; with_reducible rfl)
  try simp only [Act.put, List.getElem_toArray, List.getElem_cons_zero, List.getElem_cons_succ, List.setIfInBounds_toArray, List.set_cons_zero, List.set_cons_succ]
  refine wpAnyH_take (i := 10) (v := ?_) rfl (by kernel_rfl) (by kernel_rfl) (by kernel_rfl) (fun _ _ _ h => h) (Or.inl ⟨by kernel_rfl, ?_⟩) hHeld ?_
  rotate_left
  · intro w hSw
    first | (go_simp; done) | (go_simp; with_reducible rfl)
  try simp only [Act.put, List.getElem_toArray, List.getElem_cons_zero, List.getElem_cons_succ, List.setIfInBounds_toArray, List.set_cons_zero, List.set_cons_succ]
  refine wpAnyH_take (i := 11) (v := ?_) rfl (by kernel_rfl) (by kernel_rfl) (by kernel_rfl) (fun _ _ _ h => h) (Or.inl ⟨by kernel_rfl, ?_⟩) hHeld ?_
  rotate_left
  · intro w hSw
    first | (go_simp; done) | (go_simp; with_reducible rfl)
  try simp only [Act.put, List.getElem_toArray, List.getElem_cons_zero, List.getElem_cons_succ, List.setIfInBounds_toArray, List.set_cons_zero, List.set_cons_succ]
  refine wpAnyH_take (i := 12) (v := ?_) rfl (by kernel_rfl) (by kernel_rfl) (by kernel_rfl) (fun _ _ _ h => h) (Or.inl ⟨by kernel_rfl, ?_⟩) hHeld ?_
  rotate_left
  · intro w hSw
    first | (go_simp; done) | (go_simp; with_reducible rfl)
  try simp only [Act.put, List.getElem_toArray, List.getElem_cons_zero, List.getElem_cons_succ, List.setIfInBounds_toArray, List.set_cons_zero, List.set_cons_succ]
  refine wpAnyH_take (i := 13) (v := ?_) rfl (by kernel_rfl) (by kernel_rfl) (by kernel_rfl) (fun _ _ _ h => h) (Or.inl ⟨by kernel_rfl, ?_⟩) hHeld ?_
  rotate_left
  · intro w hSw
    first | (go_simp; done) | (go_simp; with_reducible rfl)
  try simp only [Act.put, List.getElem_toArray, List.getElem_cons_zero, List.getElem_cons_succ, List.setIfInBounds_toArray, List.set_cons_zero, List.set_cons_succ]
  refine wpAnyH_take (i := 14) (v := ?_) rfl (by kernel_rfl) (by kernel_rfl) (by kernel_rfl) (fun _ _ _ h => h) (Or.inl ⟨by kernel_rfl, ?_⟩) hHeld ?_
  rotate_left
  · intro w hSw
    first | (go_simp; done) | (go_simp; with_reducible rfl)
  try simp only [Act.put, List.getElem_toArray, List.getElem_cons_zero, List.getElem_cons_succ, List.setIfInBounds_toArray, List.set_cons_zero, List.set_cons_succ]
  refine wpAnyH_take (i := 15) (v := ?_) rfl (by kernel_rfl) (by kernel_rfl) (by kernel_rfl) (fun _ _ _ h => h) (Or.inl ⟨by kernel_rfl, ?_⟩) hHeld ?_
  rotate_left
  · intro w hSw
    first | (go_simp; done) | (go_simp; with_reducible rfl)
  try simp only [Act.put, List.getElem_toArray, List.getElem_cons_zero, List.getElem_cons_succ, List.setIfInBounds_toArray, List.set_cons_zero, List.set_cons_succ]
  refine wpAnyH_take (i := 16) (v := ?_) rfl (by kernel_rfl) (by kernel_rfl) (by kernel_rfl) (fun _ _ _ h => h) (Or.inl ⟨by kernel_rfl, ?_⟩) hHeld ?_
  rotate_left
  · intro w hSw
    first | (go_simp; done) | (go_simp; with_reducible rfl)
  try simp only [Act.put, List.getElem_toArray, List.getElem_cons_zero, List.getElem_cons_succ, List.setIfInBounds_toArray, List.set_cons_zero, List.set_cons_succ]
  refine wpAnyH_take (i := 17) (v := ?_) rfl (by kernel_rfl) (by kernel_rfl) (by kernel_rfl) (fun _ _ _ h => h) (Or.inl ⟨by kernel_rfl, ?_⟩) hHeld ?_
  rotate_left
  · intro w hSw
    first | (go_simp; done) | (go_simp; with_reducible rfl)
  try simp only [Act.put, List.getElem_toArray, List.getElem_cons_zero, List.getElem_cons_succ, List.setIfInBounds_toArray, List.set_cons_zero, List.set_cons_succ]
  refine wpAnyH_take (i := 18) (v := ?_) rfl (by kernel_rfl) (by kernel_rfl) (by kernel_rfl) (fun _ _ _ h => h) (Or.inl ⟨by kernel_rfl, ?_⟩) hHeld ?_
  rotate_left
  · intro w hSw
    first | (go_simp; done) | (go_simp; with_reducible rfl)
  try simp only [Act.put, List.getElem_toArray, List.getElem_cons_zero, List.getElem_cons_succ, List.setIfInBounds_toArray, List.set_cons_zero, List.set_cons_succ]
  refine wpAnyH_take (i := 19) (v := ?_) rfl (by kernel_rfl) (by kernel_rfl) (by kernel_rfl) (fun _ _ _ h => h) (Or.inl ⟨by kernel_rfl, ?_⟩) hHeld ?_
  rotate_left
  · intro w hSw
    first | (go_simp; done) | (go_simp; with_reducible rfl)
  try simp only [Act.put, List.getElem_toArray, List.getElem_cons_zero, List.getElem_cons_succ, List.setIfInBounds_toArray, List.set_cons_zero, List.set_cons_succ]
  refine wpAnyH_take (i := 20) (v := ?_) rfl (by kernel_rfl) (by kernel_rfl) (by kernel_rfl) (fun _ _ _ h => h) (Or.inl ⟨by kernel_rfl, ?_⟩) hHeld ?_
  rotate_left
  · intro w hSw
    first | (go_simp; done) | (go_simp; with_reducible rfl)
  try simp only [Act.put, List.getElem_toArray, List.getElem_cons_zero, List.getElem_cons_succ, List.setIfInBounds_toArray, List.set_cons_zero, List.set_cons_succ]
  refine wpAnyH_take (i := 21) (v := ?_) rfl (by kernel_rfl) (by kernel_rfl) (by kernel_rfl) (fun _ _ _ h => h) (Or.inl ⟨by kernel_rfl, ?_⟩) hHeld ?_
  rotate_left
  · intro w hSw
    first | (go_simp; done) | (go_simp; with_reducible rfl)
  try simp only [Act.put, List.getElem_toArray, List.getElem_cons_zero, List.getElem_cons_succ, List.setIfInBounds_toArray, List.set_cons_zero, List.set_cons_succ]
  refine wpAnyH_take (i := 22) (v := ?_) rfl (by kernel_rfl) (by kernel_rfl) (by kernel_rfl) (fun _ _ _ h => h) (Or.inl ⟨by kernel_rfl, ?_⟩) hHeld ?_
  rotate_left
  · intro w hSw
    have q0 := (Hp.pk hSw [3]).blk.cell (i := 0) rfl
    have q1 := (Hp.pk hSw [3]).blk.cell (i := 1) rfl
    have q2 := (Hp.pk hSw [3]).blk.cell (i := 2) rfl
    have q3 := (Hp.pk hSw [3]).blk.cell (i := 3) rfl
    first | (go_simp; done) | (go_simp; with_reducible rfl)
  try simp only [Act.put, List.getElem_toArray, List.getElem_cons_zero, List.getElem_cons_succ, List.setIfInBounds_toArray, List.set_cons_zero, List.set_cons_succ]
  refine wpAnyH_take (i := 23) (v := ?_) rfl (by kernel_rfl) (by kernel_rfl) (by kernel_rfl) (fun _ _ _ h => h) (Or.inl ⟨by kernel_rfl, ?_⟩) hHeld ?_
  rotate_left
  · intro w hSw
    have q0 := (Hp.pk hSw [4]).blk.cell (i := 0) rfl
    have q1 := (Hp.pk hSw [4]).blk.cell (i := 1) rfl
    have q2 := (Hp.pk hSw [4]).blk.cell (i := 2) rfl
    have q3 := (Hp.pk hSw [4]).blk.cell (i := 3) rfl
    first | (go_simp; done) | (go_simp; with_reducible rfl)
  try simp only [Act.put, List.getElem_toArray, List.getElem_cons_zero, List.getElem_cons_succ, List.setIfInBounds_toArray, List.set_cons_zero, List.set_cons_succ]
  refine wpAnyH_ready (rs := [24]) (by kernel_rfl) (by simp) ?_
  refine AllReadyH.cons rfl (fun K hK => ?_) AllReadyH.nil
  go_simp
  go_at_call 10
  refine (OFC.out _).mono ?_
  rintro e9 w9 ⟨rfl, b9⟩
  have H9 := Lib.hid (Hp.keep hHeld b9)
  clear b9
  go_simp
  refine hK.out _ _ (H9.out) (fun hHeld => ?_)
  clear hK K
  try simp only [Act.put, List.getElem_toArray, List.getElem_cons_zero, List.getElem_cons_succ, List.setIfInBounds_toArray, List.set_cons_zero, List.set_cons_succ]
  refine wpAnyH_ready (rs := [25]) (by kernel_rfl) (by simp) ?_
  refine AllReadyH.cons rfl (fun K hK => ?_) AllReadyH.nil
  go_simp
  go_at_call 11
  have SC := same_h ⟨ep, nu, wh, pay⟩ (Src.of_sl (Hp.pk hHeld [2]).sl) (Src.below RD.out (Hp.b hHeld))
  simp only [pcells] at SC
  refine SC.mono ?_
  rintro e11 w11 ⟨rfl, b11⟩
  have H11 := Lib.hid (Hp.keep hHeld b11)
  clear b11
  go_simp
  refine hK.out _ _ (H11.out) (fun hHeld => ?_)
  clear hK K
  try simp only [Act.put, List.getElem_toArray, List.getElem_cons_zero, List.getElem_cons_succ, List.setIfInBounds_toArray, List.set_cons_zero, List.set_cons_succ]
  refine wpAnyH_take (i := 26) (v := ?_) rfl (by kernel_rfl) (by kernel_rfl) (by kernel_rfl) (fun _ _ _ h => h) (Or.inl ⟨by kernel_rfl, ?_⟩) hHeld ?_
  rotate_left
  · intro w hSw
    first | (go_simp; done) | (go_simp; with_reducible rfl)
  try simp only [Act.put, List.getElem_toArray, List.getElem_cons_zero, List.getElem_cons_succ, List.setIfInBounds_toArray, List.set_cons_zero, List.set_cons_succ]
  refine wpAnyH_take (i := 27) (v := ?_) rfl (by kernel_rfl) (by kernel_rfl) (by kernel_rfl) (fun _ _ _ h => h) (Or.inl ⟨by kernel_rfl, ?_⟩) hHeld ?_
  rotate_left
  · intro w hSw
    first | (go_simp; done) | (go_simp; with_reducible rfl)
  try simp only [Act.put, List.getElem_toArray, List.getElem_cons_zero, List.getElem_cons_succ, List.setIfInBounds_toArray, List.set_cons_zero, List.set_cons_succ]
  refine wpAnyH_take (i := 28) (v := ?_) rfl (by kernel_rfl) (by kernel_rfl) (by kernel_rfl) (fun _ _ _ h => h) (Or.inl ⟨by kernel_rfl, ?_⟩) hHeld ?_
  rotate_left
  · intro w hSw
    first | (go_simp; done) | (go_simp; with_reducible rfl)
  try simp only [Act.put, List.getElem_toArray, List.getElem_cons_zero, List.getElem_cons_succ, List.setIfInBounds_toArray, List.set_cons_zero, List.set_cons_succ]
  refine wpAnyH_take (i := 29) (v := ?_) rfl (by kernel_rfl) (by kernel_rfl) (by kernel_rfl) (fun _ _ _ h => h) (Or.inl ⟨by kernel_rfl, ?_⟩) hHeld ?_
  rotate_left
  · intro w hSw
    first | (go_simp; done) | (go_simp; with_reducible rfl)
  try simp only [Act.put, List.getElem_toArray, List.getElem_cons_zero, List.getElem_cons_succ, List.setIfInBounds_toArray, List.set_cons_zero, List.set_cons_succ]
  refine wpAnyH_take (i := 30) (v := ?_) rfl (by kernel_rfl) (by kernel_rfl) (by kernel_rfl) (fun _ _ _ h => h) (Or.inl ⟨by kernel_rfl, ?_⟩) hHeld ?_
  rotate_left
  · intro w hSw
    first | (go_simp; done) | (go_simp; with_reducible rfl)
  try simp only [Act.put, List.getElem_toArray, List.getElem_cons_zero, List.getElem_cons_succ, List.setIfInBounds_toArray, List.set_cons_zero, List.set_cons_succ]
  refine wpAnyH_take (i := 31) (v := ?_) rfl (by kernel_rfl) (by kernel_rfl) (by kernel_rfl) (fun _ _ _ h => h) (Or.inl ⟨by kernel_rfl, ?_⟩) hHeld ?_
  rotate_left
  · intro w hSw
    first | (go_simp; done) | (go_simp; with_reducible rfl)
  try simp only [Act.put, List.getElem_toArray, List.getElem_cons_zero, List.getElem_cons_succ, List.setIfInBounds_toArray, List.set_cons_zero, List.set_cons_succ]
  refine wpAnyH_done (by kernel_rfl) ?_ _
  refine NoPanic.normal ?_

  go_wp2_with fail
  go_ret
  exact ⟨rfl, H11.out.b⟩
theorem bytes_law (z : PArg) (a1 : Option Addr) (len1 cap1 : Nat) (z1 : List Int) (W : World) (hz : (0 ≤ z.ep ∧ z.ep < 4294967296) ∧ (0 ≤ z.nu ∧ z.nu < 4294967296) ∧ IsRow .u8 W z.A z.n z.c z.zs) (h1 : IsRow .u8 W a1 len1 cap1 z1) (y1 : len1 * 1 ≤ 140737488351232) :
    Calls Try.prog 3 #[z.val, .slice a1 len1 cap1] W fun e w' => e = .returned (.bool true) ∧ Below W.heap.size W w' := by
  obtain ⟨ep, nu, wh, A, n, c, zs⟩ := z
  obtain ⟨he, hu, h0⟩ := hz
  simp only at he hu h0
  simp only [PArg.val]
  by_cases b1 : 800 < n
  · exact bytes_out _ _ _ _ _ _ _ _ _ _ (.inl b1)
  by_cases b2 : 100 < len1
  · exact bytes_out _ _ _ _ _ _ _ _ _ _ (.inr b2)
  by_cases b3 : 600 < n
  · exact bytes_long _ _ _ _ _ _ _ _ _ _ (by omega) (by omega) b3
  have s0 := h0.src
  have s1 := h1.src
  have l0 := h0.take_len
  have l1 := h1.take_len
  have u0 := u8_bd h0
  have u1 := u8_bd h1
  generalize zs.take n = pay at *
  generalize z1.take len1 = more at *
  subst l0 l1
  exact bytes_main ep nu wh A c pay a1 cap1 more W ⟨he, hu, u0⟩ s0 s1 u1 (by omega) (by omega)
end Go.Proofs.Ytdekdcleeignoaa.Pk
