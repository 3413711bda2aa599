/-
  The walks of the program's encoder: Len, Bytes; no condition but those told.
-/
import Derived.Test.YtlbjoflmfboeeaaEns
set_option linter.unusedVariables false
set_option linter.unusedSimpArgs false
namespace Go.Proofs.Ytlbjoflmfboeeaa.Enc
open Go.RowKit Go.Proofs.Ytlbjoflmfboeeaa Go.Proofs.YtlbjoflmfboeeaaW.PrintWords

theorem Len_none (w : World) : Calls Try.prog 20 #[.pointer none] w fun en w' => en = .returned (.int .i64 0) ∧ w' = w := by
  go_enter Try.func20, Try.ntmps20
  go_wp2
  go_ret
  exact ⟨rfl, rfl⟩
theorem Len_some {w : World} {e : Nat} {s : St} {v : Value} (a : Is w e s v) (he : 1 ≤ s.he) (small : s.k ≤ 900000000) :
    Calls Try.prog 20 #[.pointer (some ⟨e, 0, none⟩)] w fun en w' => en = .returned (.int .i64 ((s.k + 4 : Nat) : Int)) ∧ Below w.heap.size w w' := by
  obtain ⟨A0, cap, hv, hcap⟩ := a.sl.form
  have d2 := a.blk.cell (i := 2) rfl
  have d4 := a.blk.cell (i := 4) rfl
  have d5 := a.blk.cell (i := 5) rfl
  obtain ⟨lo, sz, he', fi, out, be⟩ := s
  simp only [St.k] at *
  clear a
  subst hv
  generalize out.length = n at *
  cases be with
  | true =>
    simp only [if_true] at small ⊢
    go_enter Try.func20, Try.ntmps20
    go_wp2
    go_quiet (fail)
    go_wp2
    go_ret
    exact ⟨by simp; omega, pw_below_drewN (Below.refl _ _) _⟩
  | false =>
    simp only [Bool.false_eq_true, if_false] at small ⊢
    go_enter Try.func20, Try.ntmps20
    go_wp2
    go_quiet (fail)
    go_wp2
    go_ret
    exact ⟨by simp; omega, pw_below_drewN (Below.refl _ _) _⟩
/-- Without noughts behind. -/
def strip (l : List Int) : List Int := (l.reverse.dropWhile (fun x => x == 0)).reverse
theorem strip_nil : strip [] = [] := rfl
theorem strip_snoc (l : List Int) (x : Int) : strip (l ++ [x]) = if x = 0 then strip l else l ++ [x] := by
  unfold strip
  rw [List.reverse_append, List.reverse_singleton, List.singleton_append, List.dropWhile_cons]
  by_cases h : x = 0
  · subst h; simp
  · rw [if_neg h, if_neg (by simpa using h)]; simp
theorem strip_take (l : List Int) (k : Nat) (h : k < l.length) : strip (l.take (k + 1)) = if l[k] = 0 then strip (l.take k) else l.take (k + 1) := by
  rw [List.take_succ_eq_append_getElem h, strip_snoc]
def shifts : Nat → St → St
  | 0, s => s
  | n + 1, s => shifts n (shiftS s)
/-- The bytes of all parts so far. -/
def bytesS (s : St) : List Int := strip (shifts 5 s).out
theorem Bytes_none (w : World) : Calls Try.prog 21 #[.pointer none] w fun en w' => en = .returned (.slice none 0 0) ∧ w' = w := by
  go_enter Try.func21, Try.ntmps21
  go_wp2
  go_ret
  exact ⟨rfl, rfl⟩
set_option maxHeartbeats 2000000 in
set_option maxRecDepth 100000 in
theorem Bytes_some {w : World} {e : Nat} {s : St} {v : Value} (a : Is w e s v) (ok : s.Ready) (small : s.k ≤ 800000000) :
    Calls Try.prog 21 #[.pointer (some ⟨e, 0, none⟩)] w fun en w' => ∃ v', en = .returned v' ∧ Sl w' 5 .u8 v' (bytesS s) ∧ (∀ g, v'.ownBlock = some g → w.heap.size ≤ g) ∧ Below w.heap.size w w' := by
  obtain ⟨A0, cap, hv, hcap⟩ := a.sl.form
  subst hv
  have d0 := a.blk.cell (i := 0) rfl
  have d1 := a.blk.cell (i := 1) rfl
  have d2 := a.blk.cell (i := 2) rfl
  have d3 := a.blk.cell (i := 3) rfl
  have d4 := a.blk.cell (i := 4) rfl
  have d5 := a.blk.cell (i := 5) rfl
  have hle := a.blk.lt
  have A := Lib.hid a
  have R := Lib.hid ok
  have hl : s.out.length ≤ 800000000 := by have := ok.he0; have h2 := small; unfold St.k at h2; omega
  clear a ok
  go_enter Try.func21, Try.ntmps21
  go_wp2_with (first
    | (at_builtin; refine wpList_add (.tmp 9) (.tmp 13) 35 5 .u8 0 1 rfl rfl Try.underlying35 info_u8 (.slice (some ⟨w.heap.size + 1, 0, none⟩) 0 0) (.slice A0 s.out.length cap) [] s.out rfl rfl ?_ ?_ ?_ ?_ ?_
       · have hr : RowI ((w.alloc (.cells #[.int .u64 s.lo, .int .u32 s.sz, .int .i64 s.he, .int .u8 s.fi, .slice A0 s.out.length cap, .bool s.be] 110)).alloc (.cells #[] 5)) 5 .u8 (w.heap.size + 1) 0 [] :=
           ⟨#[], Blk.new_at _ _ (by simp), Nat.le_refl _, Nat.zero_le _, rfl, fun i h => by simp at h⟩
         exact Sl.row hr
       · exact Src.of_sl ((A.out.sl.alloc _).alloc _)
       · simp; omega
       · simp; omega
       intro v1 w1 ha
       rw [List.nil_append] at ha
       have b1 : Blk w1 w.heap.size 110 #[.int .u64 s.lo, .int .u32 s.sz, .int .i64 s.he, .int .u8 s.fi, .slice A0 s.out.length cap, .bool s.be] :=
         ((Blk.new w _ _).alloc _).of_same (ha.grown.block _ (by simp; omega) (by show some w.heap.size ≠ some (w.heap.size + 1); simp))
       obtain ⟨A1, c1, hv1, hc1⟩ := ha.sl.form
       subst hv1
       have x4 := b1.cell (i := 4) rfl
       have y4 := b1.free 4
       have B1 := Lib.hid b1
       have HA := Lib.hid ha
       clear ha b1))
  have hown : ∀ g, (Value.slice A1 s.out.length c1).ownBlock = some g → w.heap.size < g := by
    intro g hg
    rcases HA.out.at_ with h | h
    · rw [h] at hg; have e : w.heap.size + 1 = g := Option.some.inj hg; omega
    · rw [h] at hg; have e := Option.some.inj hg; simp at e; omega
  have hB : Below w.heap.size w w1 := ((((Below.refl _ _).alloc (Nat.le_refl _) _ : Below w.heap.size w _).alloc (by simp) _).trans (HA.out.only.below (B := w.heap.size) (by simp; omega) (fun i hi => by have e : w.heap.size + 1 = i := Option.some.inj hi; omega)))
  have I1 : Is (w1.setCell ⟨w.heap.size, 4, none⟩ (.slice A1 s.out.length c1)) w.heap.size s (.slice A1 s.out.length c1) :=
    ⟨B1.out.set 4 _, HA.out.sl.other (a := ⟨w.heap.size, 4, none⟩) (fun h => Nat.lt_irrefl _ (hown _ h)) _, fun h => Nat.lt_irrefl _ (hown _ h)⟩
  have hB2 : Below w.heap.size w (w1.setCell ⟨w.heap.size, 4, none⟩ (.slice A1 s.out.length c1)) := hB.setCell (p := ⟨w.heap.size, 4, none⟩) (Nat.le_refl _) _
  have I0 := Lib.hid I1
  have W0 := Lib.hid hB2
  have N0 := Lib.hid hown
  clear d0 d1 d2 d3 d4 d5 x4 y4 B1 HA hown hB I1 hB2 A
  go_loopw [16] (fun u wr => ∃ (j : Nat) (t : St) (v' : Value), j ≤ 5 ∧ u = .int .i64 (j : Int) ∧ Hid (shifts (5 - j) t = shifts 5 s) ∧ Hid t.Ok ∧ t.k = s.k + j ∧ Hid (Is wr w.heap.size t v') ∧ Hid (∀ g, v'.ownBlock = some g → w.heap.size < g) ∧ Hid (Below w.heap.size w wr)) (fun u _ => 5 - (intOf u).toNat)
  case atStart =>
    have r := R.out
    exact ⟨0, s, _, by omega, rfl, rfl, ⟨r.lo0, by have := r.sum; have := r.sz0; omega, by have := r.sz0; omega, r.sz1, r.he0, r.fi0, r.fi1, by omega⟩, rfl, I0, N0, W0⟩
  case round =>
    clear I0 W0 N0
    obtain ⟨j, t, v', hj, rfl, HN, T1, hk, I1, N1, W1⟩ := hrel
    by_cases hlt : j < 5
    · have SH := Lib.hid (shift_calls I1.out T1.out)
      go_wp2_with (first
        | (go_at_call 60; refine SH.out.mono ?_; rintro e w4 ⟨v4, rfl, a4, s4⟩; have A5 := Lib.hid a4; have S5 := Lib.hid s4; clear a4 s4))
      go_roundw
      case rel =>
        have hh := shiftS_he t T1.out.he0
        have hf := shiftS_fi t T1.out.fi0 T1.out.fi1
        have hl := shiftS_lo t
        have hz := shiftS_sz t
        have hk2 := shift_k t T1.out.he0
        have hwr := I1.out.blk.lt
        refine ⟨j + 1, shiftS t, v4, by omega, by push_cast; rfl, ?_, ⟨hl.1, by omega, by rw [hz]; exact T1.out.sz0, by rw [hz]; exact T1.out.sz1, hh, hf.1, hf.2, by omega⟩, by omega, A5, fun g hg => ?_, W1.out.trans (S5.out.only.below (B := w.heap.size) (by omega) (fun i hi => ?_))⟩
        · have e5 : 5 - j = (5 - (j + 1)) + 1 := by omega
          have := HN.out
          rw [e5] at this
          exact this
        · rcases S5.out.own g hg with h | h
          · exact N1.out g h
          · omega
        · rcases hi with hi | hi
          · omega
          · exact Nat.le_of_lt (N1.out i hi)
      case measure => simp [intOf]; omega
    · obtain rfl : j = 5 := by omega
      have HF : Hid (t.out = (shifts 5 s).out) := Lib.hid (congrArg St.out HN.out)
      have hlen : t.out.length ≤ 900000000 := by have := T1.out.he0; unfold St.k at hk; unfold St.k at small; omega
      have HFin : Hid (bytesS s = strip t.out) := Lib.hid (by unfold bytesS; rw [HF.out])
      have hsl := I1.out.sl
      obtain ⟨lo, sz, he, fi, out, be⟩ := t
      simp only at hlen hsl HFin
      rcases hsl with ⟨rfl, rfl⟩ | ⟨g, cp, rfl, hrow⟩
      · have x4 := I1.out.blk.cell (i := 4) rfl
        go_wp2
        refine wp_loop_rounds 1 ?_
        rw [rounds_succ]
        go_wp2
        go_ret
        exact ⟨_, rfl, by rw [HFin.out]; exact Sl.nil _ _ _, fun g hg => (by cases hg), W1.out⟩
      · have HRow := Lib.hid hrow
        have HBk := Lib.hid I1.out.blk
        have hg := N1.out g rfl
        simp only at HBk
        clear hrow I1 T1 HN HF
        obtain ⟨len, hlen2⟩ : ∃ len, out.length = len := ⟨_, rfl⟩
        have HL := Lib.hid hlen2
        have hcl := HRow.out.len.1
        rw [hlen2] at hlen HBk hcl
        clear hlen2 N1
        go_wp2
        go_loopg [] len (fun n wq => n ≤ len ∧ Hid (strip (out.take n) = bytesS s) ∧ Hid (Blk wq w.heap.size 110 #[.int .u64 lo, .int .u32 sz, .int .i64 he, .int .u8 fi, .slice (some ⟨g, 0, none⟩) n cp, .bool be]) ∧ Hid (RowI wq 5 .u8 g cp out) ∧ Hid (Below w.heap.size w wq))
        case atStart => exact ⟨Nat.le_refl _, by show _ = _; rw [List.take_of_length_le (by rw [HL.out]; omega)]; exact HFin.out.symm, HBk, HRow, W1⟩
        case round =>
          clear HBk HRow W1
          obtain ⟨hn, HS, HBk, HRow, W1⟩ := hrel
          have x4 := HBk.out.cell (i := 4) rfl
          have y4 := HBk.out.free 4
          by_cases h0 : 0 < gk
          · obtain ⟨n, rfl⟩ : ∃ n, gk = n + 1 := ⟨gk - 1, by omega⟩
            have c1 := HRow.out.cell (i := n) (by rw [HL.out]; omega)
            have HT := Lib.hid (strip_take out n (by rw [HL.out]; omega))
            have e1 : ((n + 1 : Nat) : Int) - 1 = (n : Int) := by omega
            generalize out[n]'(by rw [HL.out]; omega) = y at *
            by_cases hy : y = 0
            · have z : (y == 0) = true := by rw [beq_iff_eq]; exact hy
              have HT2 : Hid (strip (out.take (n + 1)) = strip (out.take n)) := Lib.hid (by rw [HT.out, if_pos hy])
              have ncp : n ≤ cp := by omega
              clear hy HT
              go_wp2
              go_roundg n
              case measure => omega
              case rel => exact ⟨by omega, HT2.out.symm.trans HS.out, HBk.out.set 4 _, HRow.out.other (a := ⟨w.heap.size, 4, none⟩) (by simp; omega) _, W1.out.setCell (p := ⟨w.heap.size, 4, none⟩) (Nat.le_refl _) _⟩
            · have z : (y == 0) = false := by rw [beq_eq_false_iff_ne]; exact hy
              have HT2 : Hid (strip (out.take (n + 1)) = out.take (n + 1)) := Lib.hid (by rw [HT.out, if_neg hy])
              clear hy HT
              go_wp2
              go_ret
              have hr := HRow.out.take (n + 1)
              have hs := Sl.row hr
              rw [List.length_take, Nat.min_eq_left (by rw [HL.out]; omega)] at hs
              exact ⟨_, rfl, by rw [← HS.out, HT2.out]; exact hs, fun g' hg' => (by have e : g = g' := Option.some.inj hg'; omega), W1.out⟩
          · obtain rfl : gk = 0 := by omega
            go_wp2
            go_ret
            have hr := HRow.out.take 0
            have hs := Sl.row hr
            rw [List.take_zero] at hs HS
            exact ⟨_, rfl, by rw [← HS.out]; exact hs, fun g' hg' => (by have e : g = g' := Option.some.inj hg'; omega), W1.out⟩
end Go.Proofs.Ytlbjoflmfboeeaa.Enc
