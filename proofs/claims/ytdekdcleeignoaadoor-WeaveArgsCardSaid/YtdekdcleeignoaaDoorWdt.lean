/-
  Words: titles; the program's. No condition but those told.
-/
import Derived.Test.YtdekdcleeignoaaDoorWdn
set_option linter.unusedVariables false
set_option linter.unusedSimpArgs false
namespace Go.Proofs.YtdekdcleeignoaaDoor.Wd
open Go.RowKit Go.Proofs
/-- The rune that is written for a rune of some bytes. -/
def tr (r n : Nat) : Nat := if (r = 65533 ∧ n = 1) ∨ r < 32 ∨ r = 127 ∨ r = 59 then 32 else if r = 39 then 8217 else r
def titleF (s : ByteArray) : Nat → Nat → List UInt8 → List UInt8
  | 0, _, acc => acc
  | f + 1, pos, acc => if pos < s.size then (if acc.length + (Lib.encodeRune (tr (Utf8.decode s pos).1 (Utf8.decode s pos).2)).length > 60 then acc else titleF s f (pos + (Utf8.decode s pos).2) (acc ++ Lib.encodeRune (tr (Utf8.decode s pos).1 (Utf8.decode s pos).2))) else acc
def title (s : ByteArray) : List UInt8 := titleF s s.size 0 []
theorem titleF_end (s : ByteArray) (f pos : Nat) (acc : List UInt8) (h : ¬ pos < s.size) : titleF s f pos acc = acc := by
  cases f with
  | zero => rfl
  | succ f => simp [titleF, h]
theorem titleF_le (s : ByteArray) : ∀ (f pos : Nat) (acc : List UInt8), acc.length ≤ 60 → (titleF s f pos acc).length ≤ 60
  | 0, _, _, h => h
  | f + 1, pos, acc, h => by
    unfold titleF
    split
    · split
      · exact h
      · exact titleF_le s f _ _ (by rw [List.length_append]; omega)
    · exact h
theorem title_le (s : ByteArray) : (title s).length ≤ 60 := titleF_le s _ _ _ (by simp)
theorem dec_width (s : ByteArray) (pos : Nat) (h : pos < s.size) : 1 ≤ (Utf8.decode s pos).2 := by
  by_cases ha : (s[pos]'h).toNat < 128
  · rw [decode_ascii s pos h ha]; exact Nat.le_refl _
  · exact (decode_high s pos h (by omega)).2
theorem get!_lt (s : ByteArray) (i : Nat) : (s.get! i).toNat < 256 := (s.get! i).toNat_lt
/-- What is decoded is a rune. -/
theorem dec_valid (s : ByteArray) (pos : Nat) : (Utf8.decode s pos).1 < 55296 ∨ (57343 < (Utf8.decode s pos).1 ∧ (Utf8.decode s pos).1 ≤ 1114111) := by
  have h0 := get!_lt s pos
  rw [Lib.decode_at]
  generalize (s.get! pos).toNat = b0 at *
  generalize (s.get! (pos + 1)).toNat = b1
  generalize (s.get! (pos + 2)).toNat = b2
  generalize (s.get! (pos + 3)).toNat = b3
  unfold Lib.decodeN
  repeat' split
  all_goals simp only
  all_goals omega
theorem tr_valid {r n : Nat} (h : r < 55296 ∨ (57343 < r ∧ r ≤ 1114111)) : tr r n < 55296 ∨ (57343 < tr r n ∧ tr r n ≤ 1114111) := by
  unfold tr
  split
  · omega
  · split
    · omega
    · exact h
theorem enc_len {r : Nat} (h : r < 55296 ∨ (57343 < r ∧ r ≤ 1114111)) : Lib.runeLen (r : Int) = ((Lib.encodeRune (r : Int)).length : Int) := by
  unfold Lib.runeLen Lib.encodeRune Lib.encodeRuneZ
  rw [List.length_map]
  repeat' split
  all_goals first | rfl | (exfalso; omega)
theorem ext_get (s : ByteArray) (a i : Nat) (h : a + i < s.size) : (s.extract a s.size).get! i = s.get! (a + i) := by
  have hsz : i < (s.extract a s.size).size := by rw [ByteArray.size_extract]; omega
  rw [get!_eq _ _ hsz, get!_eq _ _ h]
  simp [ByteArray.getElem_extract]
theorem ext_get0 (s : ByteArray) (a i : Nat) (h : ¬ a + i < s.size) : (s.extract a s.size).get! i = s.get! (a + i) := by
  have e1 : ∀ (t : ByteArray) (j : Nat), ¬ j < t.size → t.get! j = 0 := fun t j hj => by
    show t.data[j]! = 0
    exact getElem!_neg t.data j hj
  rw [e1 _ _ (by rw [ByteArray.size_extract]; omega), e1 _ _ h]
theorem ext_dec (s : ByteArray) (a : Nat) : Utf8.decode (s.extract a s.size) 0 = Utf8.decode s a := by
  have e : ∀ i, (s.extract a s.size).get! i = s.get! (a + i) := fun i => by
    by_cases h : a + i < s.size
    · exact ext_get s a i h
    · exact ext_get0 s a i h
  rw [Lib.decode_at, Lib.decode_at, e, e, e, e, ByteArray.size_extract]
  congr 1
  omega
theorem tabs_below {g3 g4 : Nat} {w w' : World} (h : Lib.Utf8Tabs g3 g4 w) (b : Below w.heap.size w w') : Lib.Utf8Tabs g3 g4 w' :=
  ⟨fun c hc => (Below.cell b (World.block_lt_of_cell? _ _ (h.1 c hc))).trans (h.1 c hc), fun i hi => ⟨(Below.cell b (World.block_lt_of_cell? _ _ (h.2 i hi).1)).trans (h.2 i hi).1, (Below.cell b (World.block_lt_of_cell? _ _ (h.2 i hi).2)).trans (h.2 i hi).2⟩⟩
theorem builder_below {T e : TypeId} {B b : Nat} {bs : List Value} {w w' : World} (h : Lib.IsBuilderF T e B b bs w) (k : Below w.heap.size w w') : Lib.IsBuilderF T e B b bs w' := by
  have hg : w.grownBy w' none := ⟨k.os, k.tape, k.output, k.size, fun i hi _ => k.block i hi⟩
  have one : ∀ p, Lib.BuilderAtF T e B b p bs w → Lib.BuilderAtF T e B b p bs w' := fun p ⟨hB, v, hb, ho, hn⟩ => by
    have hlt : b < w.heap.size := by
      rcases Nat.lt_or_ge b w.heap.size with h' | h'
      · exact h'
      · simp [Array.getElem?_eq_none h'] at hb
    exact ⟨hB, v, (k.block b hlt).trans hb, ho.kept hg (by cases v.ownBlock <;> simp), hn⟩
  exact h.imp (one _) (one _)
theorem heap_below {w w' : World} (k : Below w.heap.size w w') {i : Nat} {o : Obj} (h : w.heap[i]? = some o) : w'.heap[i]? = some o := (k.block i (Array.getElem?_eq_some_iff.1 h).1).trans h
set_option maxHeartbeats 4000000 in
set_option maxRecDepth 100000 in
theorem Title_h (s : ByteArray) (hs : s.size ≤ 100000) (w : World) (hT : Lib.Utf8Tabs 0 1 w) :
    Calls Tryd.prog 30 #[.string s] w fun e w' => e = .returned (.string ⟨(title s).toArray⟩) ∧ Below w.heap.size w w' := by
  obtain ⟨B, hBw⟩ : ∃ B, w.heap.size = B := ⟨_, rfl⟩
  have HT := Lib.hid hT
  clear hT
  go_enter Tryd.func30, Tryd.ntmps30
  go_wp2_with fail
  go_loopw [] (fun wr => ∃ (pos fuel : Nat) (acc : List UInt8), Hid (Lib.IsBuilderF BT 5 B B (Lib.byteCells acc) wr) ∧ wr.heap[B + 1]? = some (.stringIter s pos) ∧ Hid (Below B w wr) ∧ Hid (titleF s fuel pos acc = title s) ∧ s.size ≤ pos + fuel ∧ acc.length ≤ 60) (fun wr => s.size - wr.iterPos (B + 1))
  case atStart =>
    subst hBw
    refine ⟨0, s.size, [], Lib.hid ((Lib.IsBuilderF.of (Lib.fresh_isBuilder BT 5 w)).alloc _), ?_, Lib.hid (((Below.refl _ w).alloc (Nat.le_refl _) _).alloc (by simp) _), Lib.hid rfl, by omega, by simp⟩
    have := World.iter_heap (w.alloc (.cells #[.pointer none, .slice none 0 0] BT)) s 0
    simpa using this
  case round =>
    obtain ⟨pos, fuel, acc, HI, hit, HB, HF, hfu, hal⟩ := hrel
    have hsz : B + 1 < wr.heap.size := (Array.getElem?_eq_some_iff.1 hit).1
    by_cases hp : pos < s.size
    · obtain ⟨r, n, hd⟩ : ∃ r n, Utf8.decode s pos = (r, n) := ⟨_, _, rfl⟩
      have hnx : ∀ ty, (Instr.next (.pointer (some ⟨B + 1, 0, none⟩)) true ty).run Tryd.prog wr = .ok (.tuple #[.bool true, .int .i64 pos, .int .i32 r]) (wr.iterAt (B + 1) s (pos + n)) := fun ty => by
        rw [Lib.run_next_any_at wr (B + 1) s pos ty hit hp, hd]
      have hw1 := dec_width s pos hp
      have hv := dec_valid s pos
      have hx := ext_dec s pos
      have DG : Hid (Lib.decodeGo (s.extract pos s.size) = (r, n)) := Lib.hid (by
        unfold Lib.decodeGo
        rw [if_neg (by rw [ByteArray.size_extract]; omega), hx, hd])
      rw [hd] at hw1 hv
      simp only at hw1 hv
      have HI2 := Lib.hid (HI.out.iterAt hit (pos + n))
      have hit2 := Lib.hid (Lib.iterAt_heap wr (B + 1) s pos (pos + n) hit)
      have HB2 := Lib.hid (Lib.below_iterAt HB.out (k := B + 1) (by omega) s (pos + n))
      have hs2 : B + 1 < (wr.iterAt (B + 1) s (pos + n)).heap.size := by rw [Lib.iterAt_size]; omega
      have TT := Lib.hid (tabs_below HT.out (by rw [hBw]; exact HB2.out))
      have HD := Lib.hid hd
      have hit0 := Lib.hid hit
      clear hx hd HI HB
      go_wp2_with fail
      refine (Tryd.utf8_DecodeRuneInString _ _ TT.out).mono ?_
      rintro e2 w2 ⟨rfl, b2⟩
      rw [DG.out]
      have HI3 := Lib.hid (builder_below HI2.out b2)
      have hit3 := Lib.hid (heap_below b2 hit2.out)
      have HB3 := Lib.hid (HB2.out.trans (b2.mono (by omega)))
      have hs3 : B + 1 < w2.heap.size := by have := b2.size; omega
      clear hnx hit HI2 hit2 HB2 hs2 TT DG b2
      go_upto_block 2 with fail
      go_cut [5] (fun v wc => v = .int .i32 ((tr r n : Nat) : Int) ∧ wc = w2)
      case first =>
        by_cases a1 : r = 65533
        · subst a1
          by_cases a2 : n = 1
          · subst a2
            go_wp2_with fail
            go_meet
            refine ⟨?_, by first | trivial | rfl⟩
            congr 1
            all_goals (unfold tr; (repeat' split) <;> first | rfl | (exfalso; omega))
          · have a3 : ((n : Int) == 1) = false := by rw [beq_eq_false_iff_ne]; omega
            have a4 : ¬ (n : Int) = 1 := by omega
            go_wp2_with fail
            go_meet
            refine ⟨?_, by first | trivial | rfl⟩
            congr 1
            all_goals (unfold tr; (repeat' split) <;> first | rfl | (exfalso; omega))
        have a2 : ((r : Int) == 65533) = false := by rw [beq_eq_false_iff_ne]; omega
        have a3 : ¬ (r : Int) = 65533 := by omega
        by_cases a4 : r < 32
        · have a5 : decide ((r : Int) < 32) = true := decide_eq_true (by omega)
          have a6 : (r : Int) < 32 := by omega
          go_wp2_with fail
          go_meet
          refine ⟨?_, by first | trivial | rfl⟩
          congr 1
          all_goals (unfold tr; (repeat' split) <;> first | rfl | (exfalso; omega))
        have a5 : decide ((r : Int) < 32) = false := decide_eq_false (by omega)
        have a6 : ¬ (r : Int) < 32 := by omega
        by_cases a7 : r = 127
        · subst a7
          go_wp2_with fail
          go_meet
          refine ⟨?_, by first | trivial | rfl⟩
          congr 1
          all_goals (unfold tr; (repeat' split) <;> first | rfl | (exfalso; omega))
        by_cases a8 : r = 59
        · subst a8
          go_wp2_with fail
          go_meet
          refine ⟨?_, by first | trivial | rfl⟩
          congr 1
          all_goals (unfold tr; (repeat' split) <;> first | rfl | (exfalso; omega))
        by_cases a9 : r = 39
        · subst a9
          go_wp2_with fail
          go_meet
          refine ⟨?_, by first | trivial | rfl⟩
          congr 1
          all_goals (unfold tr; (repeat' split) <;> first | rfl | (exfalso; omega))
        have b7 : ((r : Int) == 127) = false := by rw [beq_eq_false_iff_ne]; omega
        have b8 : ((r : Int) == 59) = false := by rw [beq_eq_false_iff_ne]; omega
        have b9 : ((r : Int) == 39) = false := by rw [beq_eq_false_iff_ne]; omega
        have c7 : ¬ (r : Int) = 127 := by omega
        have c8 : ¬ (r : Int) = 59 := by omega
        have c9 : ¬ (r : Int) = 39 := by omega
        go_wp2_with fail
        go_meet
        refine ⟨?_, by first | trivial | rfl⟩
        congr 1
        all_goals (unfold tr; (repeat' split) <;> first | rfl | (exfalso; omega))
      case rest =>
        obtain ⟨rfl, rfl⟩ := hcut
        have xv := tr_valid (n := n) hv
        obtain ⟨x, hx⟩ : ∃ x, tr r n = x := ⟨_, rfl⟩
        have HX : Hid (tr (Utf8.decode s pos).1 (Utf8.decode s pos).2 = x) := Lib.hid (by rw [HD.out]; exact hx)
        rw [hx] at xv ⊢
        have xl := enc_len xv
        obtain ⟨l, hl⟩ : ∃ l, (Lib.encodeRune (x : Int)).length = l := ⟨_, rfl⟩
        have HL := Lib.hid hl
        rw [hl] at xl
        have hl4 := Lib.runeCells_le (x : Int)
        rw [Lib.runeCells_length, hl] at hl4
        have bl := Lib.byteCells_length acc
        have LC := Lib.hid (Tryd.Builder_Len_f B B _ _ HI3.out)
        rw [bl] at LC
        have RC := Lib.hid (Tryd.utf8_RuneLen (x : Int) wc)
        rw [xl] at RC
        obtain ⟨m, hm⟩ : ∃ m : Nat, acc.length + l = m := ⟨_, rfl⟩
        have W0 : Hid (IntKind.i64.wrap ((acc.length : Int) + (l : Int)) = (m : Int)) := Lib.hid (by rw [show (acc.length : Int) + (l : Int) = (m : Int) by omega]; exact IntWalk.i64_in _ (by omega))
        clear hx bl xl hl
        by_cases h60 : 60 < acc.length + l
        · have dk : decide ((60 : Int) < (m : Int)) = true := decide_eq_true (by omega)
          have FE : Hid (acc = title s) := Lib.hid (by
            rw [← HF.out]
            obtain ⟨f, rfl⟩ : ∃ f, fuel = f + 1 := ⟨fuel - 1, by omega⟩
            unfold titleF
            rw [if_pos hp, HX.out, if_pos (by rw [HL.out]; omega)])
          go_wp2_with fail
          refine LC.out.mono ?_
          rintro e3 w3 ⟨rfl, hw3⟩
          subst w3
          go_wp2_with fail
          refine RC.out.mono ?_
          rintro e4 w4 ⟨rfl, hw4⟩
          subst w4
          have w0 := W0.out
          have m0 : (60 : Int) < (m : Int) := by omega
          go_wp2_with fail
          clear w0
          refine (Tryd.Builder_String_any_k B B acc _ HI3.out (by omega)).mono ?_
          rintro e9 w9 ⟨rfl, _, b9, _⟩
          have H9 := Lib.hid (HB3.out.trans b9)
          go_wp2_with fail
          go_ret
          exact ⟨by rw [← FE.out]; rfl, by rw [hBw]; exact H9.out⟩
        · have dk : decide ((60 : Int) < (m : Int)) = false := decide_eq_false (by omega)
          have x0 : -2147483648 ≤ (x : Int) := by omega
          have x1 : (x : Int) ≤ 2147483647 := by omega
          have WC := Lib.hid (WriteRune_k B B _ (x : Int) x0 x1 _ HI3.out (by rw [Lib.byteCells_length]; omega) (by omega))
          have an : (acc ++ Lib.encodeRune (x : Int)).length ≤ 60 := by rw [List.length_append, HL.out]; omega
          go_wp2_with fail
          refine LC.out.mono ?_
          rintro e3 w3 ⟨rfl, hw3⟩
          subst w3
          go_wp2_with fail
          refine RC.out.mono ?_
          rintro e4 w4 ⟨rfl, hw4⟩
          subst w4
          have w0 := W0.out
          have m0 : ¬ (60 : Int) < (m : Int) := by omega
          go_wp2_with fail
          clear w0
          refine WC.out.mono ?_
          rintro e5 w5 ⟨rfl, h5, b5, k5⟩
          have H5 := Lib.hid h5
          have hit5 := Lib.hid (k5.iter hit3.out (by omega))
          have HB5 := Lib.hid (HB3.out.trans b5)
          clear h5 b5 k5 WC RC LC
          go_wp2_with fail
          go_roundw
          case rel =>
            obtain ⟨f, rfl⟩ : ∃ f, fuel = f + 1 := ⟨fuel - 1, by omega⟩
            refine ⟨pos + n, f, acc ++ Lib.encodeRune (x : Int), Lib.hid ?_, hit5.out, HB5, Lib.hid ?_, by omega, an⟩
            · rw [Lib.byteCells_append, Lib.byteCells_encodeRune]; exact Or.inr H5.out
            · rw [← HF.out]
              conv => rhs; unfold titleF
              rw [if_pos hp, HX.out, if_neg (by rw [HL.out]; omega), HD.out]
          case measure =>
            simp only [World.iterPos, hit5.out, hit0.out]
            omega
    · have hnx : ∀ ty, (Instr.next (.pointer (some ⟨B + 1, 0, none⟩)) true ty).run Tryd.prog wr = _ := fun ty => Lib.run_next_end_at wr (B + 1) s pos ty hit hp
      have FE : Hid (acc = title s) := Lib.hid (by rw [← HF.out, titleF_end s fuel pos acc hp])
      go_wp2_with fail
      refine (Tryd.Builder_String_any_k B B acc _ HI.out (by omega)).mono ?_
      rintro e9 w9 ⟨rfl, _, b9, _⟩
      have H9 := Lib.hid (HB.out.trans b9)
      go_wp2_with fail
      go_ret
      exact ⟨by rw [← FE.out]; rfl, by rw [hBw]; exact H9.out⟩
end Go.Proofs.YtdekdcleeignoaaDoor.Wd
