/-
  Weave: the weaver; the program's. No condition but those told.
-/
import Derived.Test.YtdekdcleeignoaaDoorWva
set_option linter.unusedVariables false
set_option linter.unusedSimpArgs false
namespace Go.Proofs.YtdekdcleeignoaaDoor.Wv
open Go.RowKit Go.Proofs Go.Proofs.YtdekdcleeignoaaDoor Go.Proofs.YtdekdcleeignoaaDoor.Wd
def wstep (ev : Nat) (tt : ByteArray) (st : Nat × Bool × List Int) (c : Int) : Nat × Bool × List Int :=
  if ev = 0 ∨ st.1 + 1 < ev then (st.1 + 1, st.2.1, st.2.2 ++ [c]) else (0, false, st.2.2 ++ [c] ++ (if st.2.1 then blockL tt else [0]))
def wrun (ev : Nat) (tt : ByteArray) (st : Nat × Bool × List Int) (l : List Int) : Nat × Bool × List Int := l.foldl (wstep ev tt) st
theorem wrun_snoc (ev : Nat) (tt : ByteArray) (st : Nat × Bool × List Int) (l : List Int) (c : Int) : wrun ev tt st (l ++ [c]) = wstep ev tt (wrun ev tt st l) c := by unfold wrun; rw [List.foldl_append]; rfl
theorem blockL_le (s : ByteArray) : (blockL s).length ≤ 81 := by
  have := textL_le s
  unfold blockL
  simp only [List.length_append, List.length_singleton, numsS_len, List.length_replicate]
  omega
set_option maxHeartbeats 4000000 in
set_option maxRecDepth 100000 in
theorem New_h {W w : World} {L : List Ast} (H : Hp W w L) (n : Nat) (hn : n ≤ 65536) : Calls Tryd.prog 14 #[.int .i64 (n : Int)] w fun e w' => ∃ gw, e = .returned (.tuple #[.pointer (some ⟨gw, 0, none⟩), .int .i64 0]) ∧ Hp W w' (blkA gw 79 #[.int .i64 (n : Int), .int .i64 0, .string ⟨#[]⟩, .bool false] :: L) := by
  have d1 : decide ((n : Int) < 0) = false := decide_eq_false (by omega)
  have d2 : decide ((65536 : Int) < (n : Int)) = false := decide_eq_false (by omega)
  have H1 := Lib.hid (H.new_blk 79 #[.int .i64 (n : Int), .int .i64 0, .string ⟨#[]⟩, .bool false])
  clear H
  go_enter Tryd.func14, Tryd.ntmps14
  go_wp2_with fail
  go_ret2
  exact ⟨_, rfl, H1.out⟩
set_option maxHeartbeats 4000000 in
set_option maxRecDepth 100000 in
theorem New_bad {w : World} (n : Int) (hn : n < 0 ∨ 65536 < n) : Calls Tryd.prog 14 #[.int .i64 n] w fun e w' => e = .returned (.tuple #[.pointer none, .int .i64 1]) ∧ w' = w := by
  rcases (show n < 0 ∨ (¬ n < 0 ∧ 65536 < n) by omega) with h | ⟨h, h2⟩
  · have d1 : decide (n < 0) = true := decide_eq_true h
    go_enter Tryd.func14, Tryd.ntmps14
    go_wp2_with fail
    go_ret2
    exact ⟨rfl, rfl⟩
  · have d1 : decide (n < 0) = false := decide_eq_false h
    have d2 : decide ((65536 : Int) < n) = true := decide_eq_true h2
    go_enter Tryd.func14, Tryd.ntmps14
    go_wp2_with fail
    go_ret2
    exact ⟨rfl, rfl⟩
set_option maxHeartbeats 4000000 in
set_option maxRecDepth 100000 in
theorem NewParter_h {w : World} (n : Nat) (hn : n ≤ 65536) : Calls Tryd.prog 21 #[.int .i64 (n : Int)] w fun e w' => ∃ gw, e = .returned (.tuple #[.pointer (some ⟨gw, 0, none⟩), .int .i64 0]) ∧ Below w.heap.size w w' := by
  have d1 : decide ((n : Int) < 0) = false := decide_eq_false (by omega)
  have d2 : decide ((65536 : Int) < (n : Int)) = false := decide_eq_false (by omega)
  go_enter Tryd.func21, Tryd.ntmps21
  go_wp2_with fail
  go_ret2
  exact ⟨_, rfl, (Below.refl _ _).alloc (Nat.le_refl _) _⟩
set_option maxHeartbeats 4000000 in
set_option maxRecDepth 100000 in
theorem NewParter_bad {w : World} (n : Int) (hn : n < 0 ∨ 65536 < n) : Calls Tryd.prog 21 #[.int .i64 n] w fun e w' => e = .returned (.tuple #[.pointer none, .int .i64 1]) ∧ w' = w := by
  rcases (show n < 0 ∨ (¬ n < 0 ∧ 65536 < n) by omega) with h | ⟨h, h2⟩
  · have d1 : decide (n < 0) = true := decide_eq_true h
    go_enter Tryd.func21, Tryd.ntmps21
    go_wp2_with fail
    go_ret2
    exact ⟨rfl, rfl⟩
  · have d1 : decide (n < 0) = false := decide_eq_false h
    have d2 : decide ((65536 : Int) < n) = true := decide_eq_true h2
    go_enter Tryd.func21, Tryd.ntmps21
    go_wp2_with fail
    go_ret2
    exact ⟨rfl, rfl⟩
set_option maxHeartbeats 4000000 in
set_option maxRecDepth 100000 in
theorem Title_nil (s : ByteArray) (w : World) : Calls Tryd.prog 15 #[.pointer none, .string s] w fun e w' => e = .returned (.tuple #[]) ∧ w' = w := by
  go_enter Tryd.func15, Tryd.ntmps15
  go_wp2_with fail
  exact bodyPost_ret (v := .tuple #[]) (by simp [results, Tryd.results15, go_sem]) rfl ⟨rfl, rfl⟩
set_option maxHeartbeats 4000000 in
set_option maxRecDepth 100000 in
theorem Weave_nil (A : Option Addr) (n c : Nat) (w : World) : Calls Tryd.prog 19 #[.pointer none, .slice A n c] w fun e w' => e = .returned (.slice none 0 0) ∧ w' = w := by
  go_enter Tryd.func19, Tryd.ntmps19
  go_wp2_with fail
  go_ret
  exact ⟨rfl, rfl⟩
set_option maxHeartbeats 4000000 in
set_option maxRecDepth 100000 in
theorem Part_nil (A : Option Addr) (n c : Nat) (w : World) : Calls Tryd.prog 22 #[.pointer none, .slice A n c] w fun e w' => e = .returned (.tuple #[.slice none 0 0, .int .i64 1]) ∧ w' = w := by
  go_enter Tryd.func22, Tryd.ntmps22
  go_wp2_with fail
  go_ret2
  exact ⟨rfl, rfl⟩
set_option maxHeartbeats 4000000 in
set_option maxRecDepth 100000 in
theorem Bytes_nil (w : World) : Calls Tryd.prog 23 #[.slice none 0 0] w fun e w' => e = .returned (.slice none 0 0) ∧ w' = w := by
  have zz : decide ((0 : Int) < 0) = false := by decide
  go_enter Tryd.func23, Tryd.ntmps23
  go_wp2_with fail
  go_loopw [3, 10] (fun u v wr => u = .slice none 0 0 ∧ v = .int .i64 0 ∧ wr = w) (fun _ _ _ => 0)
  case atStart => exact ⟨rfl, rfl, by first | trivial | rfl⟩
  case round =>
    obtain ⟨rfl, rfl, rfl⟩ := hrel
    go_wp2_with fail
    go_ret
    exact ⟨rfl, by first | trivial | rfl⟩
set_option maxHeartbeats 4000000 in
set_option maxRecDepth 100000 in
theorem TitleW_h {W w : World} {L : List Ast} {gw ev n : Nat} {tt : ByteArray} {f : Bool} (H : Hp W w (blkA gw 79 #[.int .i64 (ev : Int), .int .i64 ((n : Nat) : Int), .string tt, .bool f] :: L)) (hT : Lib.Utf8Tabs 0 1 w) (s : ByteArray) (hs : s.size ≤ 100000) (hne : (⟨(title s).toArray⟩ : ByteArray) ≠ tt) :
    Calls Tryd.prog 15 #[.pointer (some ⟨gw, 0, none⟩), .string s] w fun e w' => e = .returned (.tuple #[]) ∧ Hp W w' (blkA gw 79 #[.int .i64 (ev : Int), .int .i64 (n : Int), .string ⟨(title s).toArray⟩, .bool true] :: L) := by
  have TC := Lib.hid (Title_h s hs w hT)
  have HH := Lib.hid H
  clear hT H
  generalize (⟨(title s).toArray⟩ : ByteArray) = t2 at *
  go_enter Tryd.func15, Tryd.ntmps15
  go_wp2_with fail
  refine TC.out.mono ?_
  rintro e1 w1 ⟨rfl, b1⟩
  have H1 := Lib.hid (HH.out.keep b1)
  clear b1 HH TC
  have q2 := H1.out.blk.cell (i := 2) rfl
  have q3 := H1.out.blk.cell (i := 3) rfl
  have fz := fun i => H1.out.blk.free i
  have H3 := Lib.hid ((H1.out.bset 2 (.string t2)).bset 3 (.bool true))
  have ne1 : (t2.toList == tt.toList) = false := by
    rw [beq_eq_false_iff_ne]
    intro h
    rw [ByteArray.toList_eq, ByteArray.toList_eq] at h
    exact hne (ByteArray.ext (Array.ext' h))
  clear hne
  go_wp2_with fail
  go_end0
  exact ⟨rfl, H3.out⟩
set_option maxHeartbeats 8000000 in
set_option maxRecDepth 100000 in
theorem Weave_h {W w : World} {L : List Ast} {gw ev n0 : Nat} {tt : ByteArray} {f0 : Bool} (H : Hp W w (blkA gw 79 #[.int .i64 (ev : Int), .int .i64 ((n0 : Nat) : Int), .string tt, .bool f0] :: L)) (hT : Lib.Utf8Tabs 0 1 W) (hts : tt.size ≤ 100000) {A : Option Addr} {m c : Nat} {xs : List Int} (rd : Rd W L .u8 (.slice A m c) xs) (hm : xs.length = m) (hml : m ≤ 100000) (hn0 : n0 ≤ 1000000000) :
    Calls Tryd.prog 19 #[.pointer (some ⟨gw, 0, none⟩), .slice A m c] w fun e w' => ∃ v, e = .returned v ∧ Hp W w' (slA 5 .u8 v (wrun ev tt (n0, f0, []) xs).2.2 :: blkA gw 79 #[.int .i64 (ev : Int), .int .i64 (((wrun ev tt (n0, f0, []) xs).1 : Nat) : Int), .string tt, .bool (wrun ev tt (n0, f0, []) xs).2.1] :: L) := by
  have RD := Lib.hid rd
  have HT := Lib.hid hT
  have HM := Lib.hid hm
  have H0 := Lib.hid (H.add_sl (Below.refl _ _) (Sl.nil w 5 .u8) (fun g hg => by cases hg))
  clear rd hT hm H
  go_enter Tryd.func19, Tryd.ntmps19
  go_wp2_with fail
  go_loopw [5, 12] (fun u v wr => ∃ (k n : Nat) (f : Bool) (out : List Int) (A1 : Option Addr) (c1 : Nat), k ≤ m ∧ u = .slice A1 out.length c1 ∧ v = .int .i64 (k : Int) ∧ n ≤ n0 + k ∧ out.length ≤ 82 * k ∧ Hid (wrun ev tt (n0, f0, []) (xs.take k) = (n, f, out)) ∧ Hid (Hp W wr (slA 5 .u8 (.slice A1 out.length c1) out :: blkA gw 79 #[.int .i64 (ev : Int), .int .i64 ((n : Nat) : Int), .string tt, .bool f] :: L))) (fun _ v _ => m - (Lib.intOf v).toNat)
  case atStart => exact ⟨0, n0, f0, [], none, 0, by omega, rfl, rfl, by omega, by simp, Lib.hid rfl, H0⟩
  case round =>
    clear H0
    obtain ⟨k, n, f, out, A1, c1, hk, rfl, rfl, hnk, hol, HS, HC⟩ := hrel
    by_cases hlt : k < m
    · have kl : k < xs.length := by rw [HM.out]; exact hlt
      obtain ⟨ad, rfl, cx⟩ := Src.cell (RD.out wr HC.out.drop.drop) kl
      have SN : Hid (wrun ev tt (n0, f0, []) (xs.take (k + 1)) = wstep ev tt (n, f, out) xs[k]) := Lib.hid (by
        rw [List.take_succ_eq_append_getElem kl, wrun_snoc, HS.out])
      generalize xs[k]'kl = x at cx SN
      clear kl
      have dk : decide ((k : Int) < (m : Int)) = true := decide_eq_true (by omega)
      have HA := Lib.hid (HC.out.alloc (.cells #[.int .u8 x] 5))
      have SA := Lib.hid (Src.of_sl (Sl_one wr 5 .u8 x))
      have dN : IntKind.i64.wrap ((n : Int) + 1) = ((n + 1 : Nat) : Int) := by rw [show (n : Int) + 1 = ((n + 1 : Nat) : Int) by omega]; exact IntWalk.i64_in _ (by omega)
      obtain ⟨n1, hn1⟩ : ∃ n1, n + 1 = n1 := ⟨_, rfl⟩
      rw [hn1] at dN
      have n1k : n1 ≤ n0 + (k + 1) := by omega
      go_upto_region 8 with (at_builtin; refine wpList_add (.tmp 16) (.tmp 18) 33 5 .u8 0 1 rfl rfl Tryd.underlying33 info_u8 _ _ out [x] rfl rfl HA.out.sl SA.out (by simp; omega) (by simp; omega) ?_
                             intro v1 w2 hp
                             have h2 := HA.out.added hp (Nat.le_refl _)
                             obtain ⟨A2, c2, rfl, _⟩ := h2.sl.form
                             have H2 := Lib.hid h2
                             clear hp h2 HA SA HC cx)
      have q0 := H2.out.swap.blk.cell (i := 0) rfl
      have q1 := H2.out.swap.blk.cell (i := 1) rfl
      have fz := fun i => H2.out.swap.blk.free i
      have H3 := Lib.hid (H2.out.swap.bset 1 (.int .i64 (n1 : Int)))
      go_upto_region 9 with fail
      have H4 : Hid (Hp W (w2.setCell ⟨gw, 1, none⟩ (.int .i64 (n1 : Int))) (blkA gw 79 #[.int .i64 (ev : Int), .int .i64 (n1 : Int), .string tt, .bool f] :: slA 5 .u8 (.slice A2 (out ++ [x]).length c2) (out ++ [x]) :: L)) := H3
      clear H3 H2 q0 q1 fz
      generalize w2.setCell ⟨gw, 1, none⟩ (.int .i64 (n1 : Int)) = w3 at *
      have HQ : Hid (∀ i v, (#[.int .i64 (ev : Int), .int .i64 (n1 : Int), .string tt, .bool f] : Array Value)[i]? = some v → w3.cell? ⟨gw, i, none⟩ = some v) := Lib.hid (fun i v h => H4.out.blk.cell h)
      have ol : (out ++ [x]).length = out.length + 1 := by simp
      by_cases he : ev = 0
      · subst he
        have SS : Hid (wrun 0 tt (n0, f0, []) (xs.take (k + 1)) = (n1, f, out ++ [x])) := Lib.hid (by rw [SN.out]; unfold wstep; rw [if_pos (.inl rfl), hn1])
        have H5 := Lib.hid H4.out.drew
        rw [ol] at H5
        clear hn1
        refine wp_region_noPanic ?_
        refine wp_region_any (by kernel_rfl) ?_
        try (change wpAny _ _ _ _ _ _ _ (World.drew _))
        refine wpAny_of_held (S := fun w9 => w9 = w3.drew) _ _ _ _ ?_
        have hHeld := (rfl : w3.drew = w3.drew)
        refine wpAnyH_take (i := 0) (v := ?_) rfl (by kernel_rfl) (by kernel_rfl) (by kernel_rfl) (fun _ _ _ h => h) (Or.inl ⟨by kernel_rfl, ?_⟩) hHeld ?_
        rotate_left
        · intro w hSw
          first | (go_simp; done) | (go_simp; with_reducible rfl)
        try simp only [Act.put, List.getElem_toArray, List.getElem_cons_zero, List.getElem_cons_succ, List.setIfInBounds_toArray, List.set_cons_zero, List.set_cons_succ]
        refine wpAnyH_take (i := 1) (v := ?_) rfl (by kernel_rfl) (by kernel_rfl) (by kernel_rfl) (fun _ _ _ h => h) (Or.inl ⟨by kernel_rfl, ?_⟩) hHeld ?_
        rotate_left
        · intro w hSw
          first | (go_simp; done) | (go_simp; with_reducible rfl)
        try simp only [Act.put, List.getElem_toArray, List.getElem_cons_zero, List.getElem_cons_succ, List.setIfInBounds_toArray, List.set_cons_zero, List.set_cons_succ]
        refine wpAnyH_take (i := 2) (v := ?_) rfl (by kernel_rfl) (by kernel_rfl) (by kernel_rfl) (fun _ _ _ h => h) (Or.inl ⟨by kernel_rfl, ?_⟩) hHeld ?_
        rotate_left
        · intro w hSw
          first | (go_simp; done) | (go_simp; with_reducible rfl)
        try simp only [Act.put, List.getElem_toArray, List.getElem_cons_zero, List.getElem_cons_succ, List.setIfInBounds_toArray, List.set_cons_zero, List.set_cons_succ]
        refine wpAnyH_take (i := 3) (v := ?_) rfl (by kernel_rfl) (by kernel_rfl) (by kernel_rfl) (fun _ _ _ h => h) (Or.inl ⟨by kernel_rfl, ?_⟩) hHeld ?_
        rotate_left
        · intro w hSw
          have w0 : w = w3.drew := hSw
          subst w0
          have q0 := HQ.out 0 _ rfl
          first | (go_simp; done) | (go_simp; with_reducible rfl)
        try simp only [Act.put, List.getElem_toArray, List.getElem_cons_zero, List.getElem_cons_succ, List.setIfInBounds_toArray, List.set_cons_zero, List.set_cons_succ]
        refine wpAnyH_take (i := 4) (v := ?_) rfl (by kernel_rfl) (by kernel_rfl) (by kernel_rfl) (fun _ _ _ h => h) (Or.inl ⟨by kernel_rfl, ?_⟩) hHeld ?_
        rotate_left
        · intro w hSw
          first | (go_simp; done) | (go_simp; with_reducible rfl)
        try simp only [Act.put, List.getElem_toArray, List.getElem_cons_zero, List.getElem_cons_succ, List.setIfInBounds_toArray, List.set_cons_zero, List.set_cons_succ]
        refine wpAnyH_take (i := 5) (v := ?_) rfl (by kernel_rfl) (by kernel_rfl) (by kernel_rfl) (fun _ _ _ h => h) (Or.inl ⟨by kernel_rfl, ?_⟩) hHeld ?_
        rotate_left
        · intro w hSw
          first | (go_simp; done) | (go_simp; with_reducible rfl)
        try simp only [Act.put, List.getElem_toArray, List.getElem_cons_zero, List.getElem_cons_succ, List.setIfInBounds_toArray, List.set_cons_zero, List.set_cons_succ]
        refine wpAnyH_take (i := 6) (v := undef) rfl (by kernel_rfl) (by kernel_rfl) (by kernel_rfl) (fun _ _ _ h => h) (Or.inr ⟨by kernel_rfl, rfl⟩) hHeld ?_
        try simp only [Act.put, List.getElem_toArray, List.getElem_cons_zero, List.getElem_cons_succ, List.setIfInBounds_toArray, List.set_cons_zero, List.set_cons_succ]
        refine wpAnyH_take (i := 7) (v := undef) rfl (by kernel_rfl) (by kernel_rfl) (by kernel_rfl) (fun _ _ _ h => h) (Or.inr ⟨by kernel_rfl, rfl⟩) hHeld ?_
        try simp only [Act.put, List.getElem_toArray, List.getElem_cons_zero, List.getElem_cons_succ, List.setIfInBounds_toArray, List.set_cons_zero, List.set_cons_succ]
        refine wpAnyH_take (i := 8) (v := undef) rfl (by kernel_rfl) (by kernel_rfl) (by kernel_rfl) (fun _ _ _ h => h) (Or.inr ⟨by kernel_rfl, rfl⟩) hHeld ?_
        try simp only [Act.put, List.getElem_toArray, List.getElem_cons_zero, List.getElem_cons_succ, List.setIfInBounds_toArray, List.set_cons_zero, List.set_cons_succ]
        refine wpAnyH_take (i := 9) (v := undef) rfl (by kernel_rfl) (by kernel_rfl) (by kernel_rfl) (fun _ _ _ h => h) (Or.inr ⟨by kernel_rfl, rfl⟩) hHeld ?_
        try simp only [Act.put, List.getElem_toArray, List.getElem_cons_zero, List.getElem_cons_succ, List.setIfInBounds_toArray, List.set_cons_zero, List.set_cons_succ]
        refine wpAnyH_take (i := 10) (v := undef) rfl (by kernel_rfl) (by kernel_rfl) (by kernel_rfl) (fun _ _ _ h => h) (Or.inr ⟨by kernel_rfl, rfl⟩) hHeld ?_
        try simp only [Act.put, List.getElem_toArray, List.getElem_cons_zero, List.getElem_cons_succ, List.setIfInBounds_toArray, List.set_cons_zero, List.set_cons_succ]
        refine wpAnyH_take (i := 11) (v := undef) rfl (by kernel_rfl) (by kernel_rfl) (by kernel_rfl) (fun _ _ _ h => h) (Or.inr ⟨by kernel_rfl, rfl⟩) hHeld ?_
        try simp only [Act.put, List.getElem_toArray, List.getElem_cons_zero, List.getElem_cons_succ, List.setIfInBounds_toArray, List.set_cons_zero, List.set_cons_succ]
        refine wpAnyH_take (i := 12) (v := undef) rfl (by kernel_rfl) (by kernel_rfl) (by kernel_rfl) (fun _ _ _ h => h) (Or.inr ⟨by kernel_rfl, rfl⟩) hHeld ?_
        try simp only [Act.put, List.getElem_toArray, List.getElem_cons_zero, List.getElem_cons_succ, List.setIfInBounds_toArray, List.set_cons_zero, List.set_cons_succ]
        refine wpAnyH_take (i := 13) (v := undef) rfl (by kernel_rfl) (by kernel_rfl) (by kernel_rfl) (fun _ _ _ h => h) (Or.inr ⟨by kernel_rfl, rfl⟩) hHeld ?_
        try simp only [Act.put, List.getElem_toArray, List.getElem_cons_zero, List.getElem_cons_succ, List.setIfInBounds_toArray, List.set_cons_zero, List.set_cons_succ]
        refine wpAnyH_take (i := 14) (v := undef) rfl (by kernel_rfl) (by kernel_rfl) (by kernel_rfl) (fun _ _ _ h => h) (Or.inr ⟨by kernel_rfl, rfl⟩) hHeld ?_
        try simp only [Act.put, List.getElem_toArray, List.getElem_cons_zero, List.getElem_cons_succ, List.setIfInBounds_toArray, List.set_cons_zero, List.set_cons_succ]
        refine wpAnyH_take (i := 15) (v := ?_) rfl (by kernel_rfl) (by kernel_rfl) (by kernel_rfl) (fun _ _ _ h => h) (Or.inl ⟨by kernel_rfl, ?_⟩) hHeld ?_
        rotate_left
        · intro w hSw
          first | (go_simp; done) | (go_simp; with_reducible rfl)
        try simp only [Act.put, List.getElem_toArray, List.getElem_cons_zero, List.getElem_cons_succ, List.setIfInBounds_toArray, List.set_cons_zero, List.set_cons_succ]
        refine wpAnyH_done (by kernel_rfl) ?_ _
        refine NoPanic.normal ?_
        go_wp2_with fail
        go_roundw
        case rel => exact ⟨k + 1, n1, f, out ++ [x], A2, c2, by omega, by rw [ol], by go_num, by omega, by rw [ol]; omega, SS, Lib.hid (by rw [ol]; exact H5.out.swap)⟩
        case measure => simp [Lib.intOf]; omega
      have e0 : ((ev : Int) == 0) = false := by rw [beq_eq_false_iff_ne]; omega
      have e1 : ¬ (ev : Int) = 0 := by omega
      by_cases hev : n1 < ev
      · have d1 : decide ((n1 : Int) < (ev : Int)) = true := decide_eq_true (by omega)
        have d2 : (n1 : Int) < (ev : Int) := by omega
        have SS : Hid (wrun ev tt (n0, f0, []) (xs.take (k + 1)) = (n1, f, out ++ [x])) := Lib.hid (by rw [SN.out]; unfold wstep; rw [if_pos (.inr (by simp only; omega)), hn1])
        have H5 := Lib.hid H4.out.drew
        rw [ol] at H5
        clear hn1
        refine wp_region_noPanic ?_
        refine wp_region_any (by kernel_rfl) ?_
        try (change wpAny _ _ _ _ _ _ _ (World.drew _))
        refine wpAny_of_held (S := fun w9 => w9 = w3.drew) _ _ _ _ ?_
        have hHeld := (rfl : w3.drew = w3.drew)
        refine wpAnyH_take (i := 0) (v := ?_) rfl (by kernel_rfl) (by kernel_rfl) (by kernel_rfl) (fun _ _ _ h => h) (Or.inl ⟨by kernel_rfl, ?_⟩) hHeld ?_
        rotate_left
        · intro w hSw
          first | (go_simp; done) | (go_simp; with_reducible rfl)
        try simp only [Act.put, List.getElem_toArray, List.getElem_cons_zero, List.getElem_cons_succ, List.setIfInBounds_toArray, List.set_cons_zero, List.set_cons_succ]
        refine wpAnyH_take (i := 1) (v := ?_) rfl (by kernel_rfl) (by kernel_rfl) (by kernel_rfl) (fun _ _ _ h => h) (Or.inl ⟨by kernel_rfl, ?_⟩) hHeld ?_
        rotate_left
        · intro w hSw
          first | (go_simp; done) | (go_simp; with_reducible rfl)
        try simp only [Act.put, List.getElem_toArray, List.getElem_cons_zero, List.getElem_cons_succ, List.setIfInBounds_toArray, List.set_cons_zero, List.set_cons_succ]
        refine wpAnyH_take (i := 2) (v := ?_) rfl (by kernel_rfl) (by kernel_rfl) (by kernel_rfl) (fun _ _ _ h => h) (Or.inl ⟨by kernel_rfl, ?_⟩) hHeld ?_
        rotate_left
        · intro w hSw
          first | (go_simp; done) | (go_simp; with_reducible rfl)
        try simp only [Act.put, List.getElem_toArray, List.getElem_cons_zero, List.getElem_cons_succ, List.setIfInBounds_toArray, List.set_cons_zero, List.set_cons_succ]
        refine wpAnyH_take (i := 3) (v := ?_) rfl (by kernel_rfl) (by kernel_rfl) (by kernel_rfl) (fun _ _ _ h => h) (Or.inl ⟨by kernel_rfl, ?_⟩) hHeld ?_
        rotate_left
        · intro w hSw
          have w0 : w = w3.drew := hSw
          subst w0
          have q0 := HQ.out 0 _ rfl
          first | (go_simp; done) | (go_simp; with_reducible rfl)
        try simp only [Act.put, List.getElem_toArray, List.getElem_cons_zero, List.getElem_cons_succ, List.setIfInBounds_toArray, List.set_cons_zero, List.set_cons_succ]
        refine wpAnyH_take (i := 4) (v := ?_) rfl (by kernel_rfl) (by kernel_rfl) (by kernel_rfl) (fun _ _ _ h => h) (Or.inl ⟨by kernel_rfl, ?_⟩) hHeld ?_
        rotate_left
        · intro w hSw
          first | (go_simp; done) | (go_simp; with_reducible rfl)
        try simp only [Act.put, List.getElem_toArray, List.getElem_cons_zero, List.getElem_cons_succ, List.setIfInBounds_toArray, List.set_cons_zero, List.set_cons_succ]
        refine wpAnyH_take (i := 5) (v := ?_) rfl (by kernel_rfl) (by kernel_rfl) (by kernel_rfl) (fun _ _ _ h => h) (Or.inl ⟨by kernel_rfl, ?_⟩) hHeld ?_
        rotate_left
        · intro w hSw
          first | (go_simp; done) | (go_simp; with_reducible rfl)
        try simp only [Act.put, List.getElem_toArray, List.getElem_cons_zero, List.getElem_cons_succ, List.setIfInBounds_toArray, List.set_cons_zero, List.set_cons_succ]
        refine wpAnyH_take (i := 6) (v := ?_) rfl (by kernel_rfl) (by kernel_rfl) (by kernel_rfl) (fun _ _ _ h => h) (Or.inl ⟨by kernel_rfl, ?_⟩) hHeld ?_
        rotate_left
        · intro w hSw
          first | (go_simp; done) | (go_simp; with_reducible rfl)
        try simp only [Act.put, List.getElem_toArray, List.getElem_cons_zero, List.getElem_cons_succ, List.setIfInBounds_toArray, List.set_cons_zero, List.set_cons_succ]
        refine wpAnyH_take (i := 7) (v := ?_) rfl (by kernel_rfl) (by kernel_rfl) (by kernel_rfl) (fun _ _ _ h => h) (Or.inl ⟨by kernel_rfl, ?_⟩) hHeld ?_
        rotate_left
        · intro w hSw
          first | (go_simp; done) | (go_simp; with_reducible rfl)
        try simp only [Act.put, List.getElem_toArray, List.getElem_cons_zero, List.getElem_cons_succ, List.setIfInBounds_toArray, List.set_cons_zero, List.set_cons_succ]
        refine wpAnyH_take (i := 8) (v := ?_) rfl (by kernel_rfl) (by kernel_rfl) (by kernel_rfl) (fun _ _ _ h => h) (Or.inl ⟨by kernel_rfl, ?_⟩) hHeld ?_
        rotate_left
        · intro w hSw
          first | (go_simp; done) | (go_simp; with_reducible rfl)
        try simp only [Act.put, List.getElem_toArray, List.getElem_cons_zero, List.getElem_cons_succ, List.setIfInBounds_toArray, List.set_cons_zero, List.set_cons_succ]
        refine wpAnyH_take (i := 9) (v := ?_) rfl (by kernel_rfl) (by kernel_rfl) (by kernel_rfl) (fun _ _ _ h => h) (Or.inl ⟨by kernel_rfl, ?_⟩) hHeld ?_
        rotate_left
        · intro w hSw
          have w0 : w = w3.drew := hSw
          subst w0
          have q1 := HQ.out 1 _ rfl
          first | (go_simp; done) | (go_simp; with_reducible rfl)
        try simp only [Act.put, List.getElem_toArray, List.getElem_cons_zero, List.getElem_cons_succ, List.setIfInBounds_toArray, List.set_cons_zero, List.set_cons_succ]
        refine wpAnyH_take (i := 10) (v := ?_) rfl (by kernel_rfl) (by kernel_rfl) (by kernel_rfl) (fun _ _ _ h => h) (Or.inl ⟨by kernel_rfl, ?_⟩) hHeld ?_
        rotate_left
        · intro w hSw
          first | (go_simp; done) | (go_simp; with_reducible rfl)
        try simp only [Act.put, List.getElem_toArray, List.getElem_cons_zero, List.getElem_cons_succ, List.setIfInBounds_toArray, List.set_cons_zero, List.set_cons_succ]
        refine wpAnyH_take (i := 11) (v := ?_) rfl (by kernel_rfl) (by kernel_rfl) (by kernel_rfl) (fun _ _ _ h => h) (Or.inl ⟨by kernel_rfl, ?_⟩) hHeld ?_
        rotate_left
        · intro w hSw
          first | (go_simp; done) | (go_simp; with_reducible rfl)
        try simp only [Act.put, List.getElem_toArray, List.getElem_cons_zero, List.getElem_cons_succ, List.setIfInBounds_toArray, List.set_cons_zero, List.set_cons_succ]
        refine wpAnyH_take (i := 12) (v := ?_) rfl (by kernel_rfl) (by kernel_rfl) (by kernel_rfl) (fun _ _ _ h => h) (Or.inl ⟨by kernel_rfl, ?_⟩) hHeld ?_
        rotate_left
        · intro w hSw
          first | (go_simp; done) | (go_simp; with_reducible rfl)
        try simp only [Act.put, List.getElem_toArray, List.getElem_cons_zero, List.getElem_cons_succ, List.setIfInBounds_toArray, List.set_cons_zero, List.set_cons_succ]
        refine wpAnyH_take (i := 13) (v := ?_) rfl (by kernel_rfl) (by kernel_rfl) (by kernel_rfl) (fun _ _ _ h => h) (Or.inl ⟨by kernel_rfl, ?_⟩) hHeld ?_
        rotate_left
        · intro w hSw
          have w0 : w = w3.drew := hSw
          subst w0
          have q0 := HQ.out 0 _ rfl
          first | (go_simp; done) | (go_simp; with_reducible rfl)
        try simp only [Act.put, List.getElem_toArray, List.getElem_cons_zero, List.getElem_cons_succ, List.setIfInBounds_toArray, List.set_cons_zero, List.set_cons_succ]
        refine wpAnyH_take (i := 14) (v := ?_) rfl (by kernel_rfl) (by kernel_rfl) (by kernel_rfl) (fun _ _ _ h => h) (Or.inl ⟨by kernel_rfl, ?_⟩) hHeld ?_
        rotate_left
        · intro w hSw
          first | (go_simp; done) | (go_simp; with_reducible rfl)
        try simp only [Act.put, List.getElem_toArray, List.getElem_cons_zero, List.getElem_cons_succ, List.setIfInBounds_toArray, List.set_cons_zero, List.set_cons_succ]
        refine wpAnyH_take (i := 15) (v := ?_) rfl (by kernel_rfl) (by kernel_rfl) (by kernel_rfl) (fun _ _ _ h => h) (Or.inl ⟨by kernel_rfl, ?_⟩) hHeld ?_
        rotate_left
        · intro w hSw
          first | (go_simp; done) | (go_simp; with_reducible rfl)
        try simp only [Act.put, List.getElem_toArray, List.getElem_cons_zero, List.getElem_cons_succ, List.setIfInBounds_toArray, List.set_cons_zero, List.set_cons_succ]
        refine wpAnyH_done (by kernel_rfl) ?_ _
        refine NoPanic.normal ?_
        go_wp2_with fail
        go_roundw
        case rel => exact ⟨k + 1, n1, f, out ++ [x], A2, c2, by omega, by rw [ol], by go_num, by omega, by rw [ol]; omega, SS, Lib.hid (by rw [ol]; exact H5.out.swap)⟩
        case measure => simp [Lib.intOf]; omega
      have d1 : decide ((n1 : Int) < (ev : Int)) = false := decide_eq_false (by omega)
      have d2 : ¬ (n1 : Int) < (ev : Int) := by omega
      have SS : Hid (wrun ev tt (n0, f0, []) (xs.take (k + 1)) = (0, false, out ++ [x] ++ (if f then blockL tt else [0]))) := Lib.hid (by rw [SN.out]; unfold wstep; rw [if_neg (by simp only; omega)])
      have H5 := Lib.hid H4.out.drew
      rw [ol] at H5
      clear hn1
      refine wp_region_noPanic ?_
      refine wp_region_any (by kernel_rfl) ?_
      try (change wpAny _ _ _ _ _ _ _ (World.drew _))
      refine wpAny_of_held (S := fun w9 => w9 = w3.drew) _ _ _ _ ?_
      have hHeld := (rfl : w3.drew = w3.drew)
      refine wpAnyH_take (i := 0) (v := ?_) rfl (by kernel_rfl) (by kernel_rfl) (by kernel_rfl) (fun _ _ _ h => h) (Or.inl ⟨by kernel_rfl, ?_⟩) hHeld ?_
      rotate_left
      · intro w hSw
        first | (go_simp; done) | (go_simp; with_reducible rfl)
      try simp only [Act.put, List.getElem_toArray, List.getElem_cons_zero, List.getElem_cons_succ, List.setIfInBounds_toArray, List.set_cons_zero, List.set_cons_succ]
      refine wpAnyH_take (i := 1) (v := ?_) rfl (by kernel_rfl) (by kernel_rfl) (by kernel_rfl) (fun _ _ _ h => h) (Or.inl ⟨by kernel_rfl, ?_⟩) hHeld ?_
      rotate_left
      · intro w hSw
        first | (go_simp; done) | (go_simp; with_reducible rfl)
      try simp only [Act.put, List.getElem_toArray, List.getElem_cons_zero, List.getElem_cons_succ, List.setIfInBounds_toArray, List.set_cons_zero, List.set_cons_succ]
      refine wpAnyH_take (i := 2) (v := ?_) rfl (by kernel_rfl) (by kernel_rfl) (by kernel_rfl) (fun _ _ _ h => h) (Or.inl ⟨by kernel_rfl, ?_⟩) hHeld ?_
      rotate_left
      · intro w hSw
        first | (go_simp; done) | (go_simp; with_reducible rfl)
      try simp only [Act.put, List.getElem_toArray, List.getElem_cons_zero, List.getElem_cons_succ, List.setIfInBounds_toArray, List.set_cons_zero, List.set_cons_succ]
      refine wpAnyH_take (i := 3) (v := ?_) rfl (by kernel_rfl) (by kernel_rfl) (by kernel_rfl) (fun _ _ _ h => h) (Or.inl ⟨by kernel_rfl, ?_⟩) hHeld ?_
      rotate_left
      · intro w hSw
        have w0 : w = w3.drew := hSw
        subst w0
        have q0 := HQ.out 0 _ rfl
        first | (go_simp; done) | (go_simp; with_reducible rfl)
      try simp only [Act.put, List.getElem_toArray, List.getElem_cons_zero, List.getElem_cons_succ, List.setIfInBounds_toArray, List.set_cons_zero, List.set_cons_succ]
      refine wpAnyH_take (i := 4) (v := ?_) rfl (by kernel_rfl) (by kernel_rfl) (by kernel_rfl) (fun _ _ _ h => h) (Or.inl ⟨by kernel_rfl, ?_⟩) hHeld ?_
      rotate_left
      · intro w hSw
        first | (go_simp; done) | (go_simp; with_reducible rfl)
      try simp only [Act.put, List.getElem_toArray, List.getElem_cons_zero, List.getElem_cons_succ, List.setIfInBounds_toArray, List.set_cons_zero, List.set_cons_succ]
      refine wpAnyH_take (i := 5) (v := ?_) rfl (by kernel_rfl) (by kernel_rfl) (by kernel_rfl) (fun _ _ _ h => h) (Or.inl ⟨by kernel_rfl, ?_⟩) hHeld ?_
      rotate_left
      · intro w hSw
        first | (go_simp; done) | (go_simp; with_reducible rfl)
      try simp only [Act.put, List.getElem_toArray, List.getElem_cons_zero, List.getElem_cons_succ, List.setIfInBounds_toArray, List.set_cons_zero, List.set_cons_succ]
      refine wpAnyH_take (i := 6) (v := ?_) rfl (by kernel_rfl) (by kernel_rfl) (by kernel_rfl) (fun _ _ _ h => h) (Or.inl ⟨by kernel_rfl, ?_⟩) hHeld ?_
      rotate_left
      · intro w hSw
        first | (go_simp; done) | (go_simp; with_reducible rfl)
      try simp only [Act.put, List.getElem_toArray, List.getElem_cons_zero, List.getElem_cons_succ, List.setIfInBounds_toArray, List.set_cons_zero, List.set_cons_succ]
      refine wpAnyH_take (i := 7) (v := ?_) rfl (by kernel_rfl) (by kernel_rfl) (by kernel_rfl) (fun _ _ _ h => h) (Or.inl ⟨by kernel_rfl, ?_⟩) hHeld ?_
      rotate_left
      · intro w hSw
        first | (go_simp; done) | (go_simp; with_reducible rfl)
      try simp only [Act.put, List.getElem_toArray, List.getElem_cons_zero, List.getElem_cons_succ, List.setIfInBounds_toArray, List.set_cons_zero, List.set_cons_succ]
      refine wpAnyH_take (i := 8) (v := ?_) rfl (by kernel_rfl) (by kernel_rfl) (by kernel_rfl) (fun _ _ _ h => h) (Or.inl ⟨by kernel_rfl, ?_⟩) hHeld ?_
      rotate_left
      · intro w hSw
        first | (go_simp; done) | (go_simp; with_reducible rfl)
      try simp only [Act.put, List.getElem_toArray, List.getElem_cons_zero, List.getElem_cons_succ, List.setIfInBounds_toArray, List.set_cons_zero, List.set_cons_succ]
      refine wpAnyH_take (i := 9) (v := ?_) rfl (by kernel_rfl) (by kernel_rfl) (by kernel_rfl) (fun _ _ _ h => h) (Or.inl ⟨by kernel_rfl, ?_⟩) hHeld ?_
      rotate_left
      · intro w hSw
        have w0 : w = w3.drew := hSw
        subst w0
        have q1 := HQ.out 1 _ rfl
        first | (go_simp; done) | (go_simp; with_reducible rfl)
      try simp only [Act.put, List.getElem_toArray, List.getElem_cons_zero, List.getElem_cons_succ, List.setIfInBounds_toArray, List.set_cons_zero, List.set_cons_succ]
      refine wpAnyH_take (i := 10) (v := ?_) rfl (by kernel_rfl) (by kernel_rfl) (by kernel_rfl) (fun _ _ _ h => h) (Or.inl ⟨by kernel_rfl, ?_⟩) hHeld ?_
      rotate_left
      · intro w hSw
        first | (go_simp; done) | (go_simp; with_reducible rfl)
      try simp only [Act.put, List.getElem_toArray, List.getElem_cons_zero, List.getElem_cons_succ, List.setIfInBounds_toArray, List.set_cons_zero, List.set_cons_succ]
      refine wpAnyH_take (i := 11) (v := ?_) rfl (by kernel_rfl) (by kernel_rfl) (by kernel_rfl) (fun _ _ _ h => h) (Or.inl ⟨by kernel_rfl, ?_⟩) hHeld ?_
      rotate_left
      · intro w hSw
        first | (go_simp; done) | (go_simp; with_reducible rfl)
      try simp only [Act.put, List.getElem_toArray, List.getElem_cons_zero, List.getElem_cons_succ, List.setIfInBounds_toArray, List.set_cons_zero, List.set_cons_succ]
      refine wpAnyH_take (i := 12) (v := ?_) rfl (by kernel_rfl) (by kernel_rfl) (by kernel_rfl) (fun _ _ _ h => h) (Or.inl ⟨by kernel_rfl, ?_⟩) hHeld ?_
      rotate_left
      · intro w hSw
        first | (go_simp; done) | (go_simp; with_reducible rfl)
      try simp only [Act.put, List.getElem_toArray, List.getElem_cons_zero, List.getElem_cons_succ, List.setIfInBounds_toArray, List.set_cons_zero, List.set_cons_succ]
      refine wpAnyH_take (i := 13) (v := ?_) rfl (by kernel_rfl) (by kernel_rfl) (by kernel_rfl) (fun _ _ _ h => h) (Or.inl ⟨by kernel_rfl, ?_⟩) hHeld ?_
      rotate_left
      · intro w hSw
        have w0 : w = w3.drew := hSw
        subst w0
        have q0 := HQ.out 0 _ rfl
        first | (go_simp; done) | (go_simp; with_reducible rfl)
      try simp only [Act.put, List.getElem_toArray, List.getElem_cons_zero, List.getElem_cons_succ, List.setIfInBounds_toArray, List.set_cons_zero, List.set_cons_succ]
      refine wpAnyH_take (i := 14) (v := ?_) rfl (by kernel_rfl) (by kernel_rfl) (by kernel_rfl) (fun _ _ _ h => h) (Or.inl ⟨by kernel_rfl, ?_⟩) hHeld ?_
      rotate_left
      · intro w hSw
        first | (go_simp; done) | (go_simp; with_reducible rfl)
      try simp only [Act.put, List.getElem_toArray, List.getElem_cons_zero, List.getElem_cons_succ, List.setIfInBounds_toArray, List.set_cons_zero, List.set_cons_succ]
      refine wpAnyH_take (i := 15) (v := ?_) rfl (by kernel_rfl) (by kernel_rfl) (by kernel_rfl) (fun _ _ _ h => h) (Or.inl ⟨by kernel_rfl, ?_⟩) hHeld ?_
      rotate_left
      · intro w hSw
        first | (go_simp; done) | (go_simp; with_reducible rfl)
      try simp only [Act.put, List.getElem_toArray, List.getElem_cons_zero, List.getElem_cons_succ, List.setIfInBounds_toArray, List.set_cons_zero, List.set_cons_succ]
      refine wpAnyH_done (by kernel_rfl) ?_ _
      refine NoPanic.normal ?_
      generalize w3.drew = w4 at *
      have q0 := H5.out.blk.cell (i := 0) rfl
      have q1 := H5.out.blk.cell (i := 1) rfl
      have q2 := H5.out.blk.cell (i := 2) rfl
      have q3 := H5.out.blk.cell (i := 3) rfl
      have fz := fun i => H5.out.blk.free i
      have H6 : Hid (Hp W (w4.setCell ⟨gw, 1, none⟩ (.int .i64 0)) (blkA gw 79 #[.int .i64 (ev : Int), .int .i64 0, .string tt, .bool f] :: slA 5 .u8 (.slice A2 (out.length + 1) c2) (out ++ [x]) :: L)) := Lib.hid (H5.out.bset 1 (.int .i64 0))
      go_upto_region 11 with fail
      clear q0 q1 q2 q3 fz H5 H4 HQ
      generalize w4.setCell ⟨gw, 1, none⟩ (.int .i64 0) = w5 at *
      have q2 := H6.out.blk.cell (i := 2) rfl
      have q3 := H6.out.blk.cell (i := 3) rfl
      have fz := fun i => H6.out.blk.free i
      cases f with
      | true =>
        have BC := Lib.hid (Block_h H6.out (tabs_below HT.out H6.out.b) tt hts)
        have bl := blockL_le tt
        go_wp2_with fail
        refine BC.out.mono ?_
        rintro e6 w6 ⟨v6, rfl, h6⟩
        obtain ⟨A6, n6, c6, hv6⟩ : ∃ A6 n6 c6, v6 = .slice A6 n6 c6 := by
          rcases h6.sl with ⟨rfl, _⟩ | ⟨g, cc, rfl, _⟩
          · exact ⟨_, _, _, rfl⟩
          · exact ⟨_, _, _, rfl⟩
        subst hv6
        have H7 := Lib.hid h6
        clear h6 BC q2 q3 fz H6
        have r3 := H7.out.drop.blk.cell (i := 3) rfl
        go_wp2_with (at_builtin; refine wpList_add (.tmp 50) (.tmp 55) 33 5 .u8 0 1 rfl rfl Tryd.underlying33 info_u8 _ _ (out ++ [x]) (blockL tt) rfl rfl H7.out.up2.sl (Src.of_sl H7.out.sl) (by rw [ol]; simp; omega) (by rw [ol]; omega) ?_
                     intro v8 w8 hp
                     have h8 := H7.out.up2.added hp (Nat.le_refl _)
                     obtain ⟨A8, c8, rfl, _⟩ := h8.sl.form
                     have H8 := Lib.hid h8.up1.drop.swap
                     clear hp h8 r3 H7
                     have q3 := H8.out.blk.cell (i := 3) rfl
                     have fz := fun i => H8.out.blk.free i)
        have H9 := Lib.hid (H8.out.bset 3 (.bool false))
        have SL : ((out ++ [x]) ++ blockL tt).length ≤ 82 * (k + 1) := by rw [List.length_append, ol]; omega
        go_roundw
        case rel => exact ⟨k + 1, 0, false, (out ++ [x]) ++ blockL tt, A8, c8, by omega, by simp, by go_num, by omega, SL, SS, Lib.hid H9.out.swap⟩
        case measure => simp [Lib.intOf]; omega
      | false =>
        have HA := Lib.hid (H6.out.swap.alloc (.cells #[.int .u8 0] 5))
        have SA := Lib.hid (Src.of_sl (Sl_one w5 5 .u8 0))
        go_wp2_with (at_builtin; refine wpList_add (.tmp 57) (.tmp 58) 33 5 .u8 0 1 rfl rfl Tryd.underlying33 info_u8 _ _ (out ++ [x]) [0] rfl rfl HA.out.sl SA.out (by rw [ol]; simp; omega) (by rw [ol]; simp; omega) ?_
                     intro v8 w8 hp
                     have h8 := HA.out.added hp (Nat.le_refl _)
                     obtain ⟨A8, c8, rfl, _⟩ := h8.sl.form
                     have H8 := Lib.hid h8.swap
                     clear hp h8 q2 q3 fz HA SA H6
                     have q3 := H8.out.blk.cell (i := 3) rfl
                     have fz := fun i => H8.out.blk.free i)
        have H9 := Lib.hid (H8.out.bset 3 (.bool false))
        have SL : ((out ++ [x]) ++ [0]).length ≤ 82 * (k + 1) := by simp; omega
        go_roundw
        case rel => exact ⟨k + 1, 0, false, (out ++ [x]) ++ [0], A8, c8, by omega, by simp, by go_num, by omega, SL, SS, Lib.hid H9.out.swap⟩
        case measure => simp [Lib.intOf]; omega
    · obtain rfl : k = m := by omega
      have dk : decide ((k : Int) < (k : Int)) = false := decide_eq_false (by omega)
      have TK : Hid (wrun ev tt (n0, f0, []) xs = (n, f, out)) := Lib.hid (by rw [← HS.out, List.take_of_length_le (by rw [HM.out]; omega)])
      clear HS
      go_wp2_with fail
      go_ret
      exact ⟨_, rfl, by rw [TK.out]; exact HC.out⟩
end Go.Proofs.YtdekdcleeignoaaDoor.Wv
