/-
  The program's encoder: what it holds, and the walks of New, shift, Put, Len; no condition but those told.
-/
import Derived.Test.YtlbjoflmfboeeaaMrf
import Derived.Laws.BitsLemmas
set_option linter.unusedVariables false
set_option linter.unusedSimpArgs false
namespace Go.Proofs.Ytlbjoflmfboeeaa.Enc
open Go.RowKit Go.Proofs.Ytlbjoflmfboeeaa Go.Proofs.YtlbjoflmfboeeaaW.PrintWords

theorem wraps_u64 (n : Int) (h₀ : 0 ≤ n) (h₁ : n < 2 ^ 64) : IntKind.u64.wrap n = n := by
  unfold IntKind.wrap
  simp only [IntKind.bits, IntKind.signed]
  simp
  omega
theorem wraps_u32 (n : Int) (h₀ : 0 ≤ n) (h₁ : n < 2 ^ 32) : IntKind.u32.wrap n = n := by rw [IntKind.wrap_u32]; omega
theorem u64_low24 (x : Int) (h₀ : 0 ≤ x) (h₁ : x < 18446744073709551616) : bits .and .u64 x 16777215 = x % 16777216 := bits_mask .u64 64 (by decide) wraps_u64 24 (by decide) x h₀ h₁
/-- What an encoder holds. -/
structure St where
  lo : Int
  sz : Int
  he : Nat
  fi : Int
  out : List Int
  be : Bool
def over (s : St) : Int := s.lo / 4294967296
def flush (s : St) : List Int := (if s.be = true then s.out ++ [(s.fi + over s) % 256] else s.out) ++ List.replicate (s.he - 1) ((255 + over s) % 256)
def shiftS (s : St) : St :=
  if s.lo < 4278190080 ∨ 4294967296 ≤ s.lo then ⟨s.lo % 16777216 * 256, s.sz, 1, s.lo / 16777216 % 256, flush s, true⟩
  else ⟨s.lo % 16777216 * 256, s.sz, s.he + 1, s.fi, s.out, s.be⟩
/-- How many bytes there are, but for the last four. -/
def St.k (s : St) : Nat := s.out.length + s.he - 1 + (if s.be = true then 1 else 0)
structure St.Ok (s : St) : Prop where
  lo0 : 0 ≤ s.lo
  lo1 : s.lo < 8589934592
  sz0 : 0 ≤ s.sz
  sz1 : s.sz < 4294967296
  he0 : 1 ≤ s.he
  fi0 : 0 ≤ s.fi
  fi1 : s.fi < 256
  small : s.k ≤ 1000000000
theorem flush_len (s : St) (h : 1 ≤ s.he) : (flush s).length = s.k := by
  unfold flush St.k
  rw [List.length_append, List.length_replicate]
  split <;> simp_all <;> omega
theorem shift_k (s : St) (h : 1 ≤ s.he) : (shiftS s).k = s.k + 1 := by
  unfold shiftS
  split
  · have := flush_len s h
    unfold St.k at this ⊢
    simp at this ⊢
    omega
  · unfold St.k
    simp only
    omega
/-- The program's encoder: block m. -/
structure Is (w : World) (m : Nat) (s : St) (v : Value) : Prop where
  blk : Blk w m 110 #[.int .u64 s.lo, .int .u32 s.sz, .int .i64 s.he, .int .u8 s.fi, v, .bool s.be]
  sl : Sl w 5 .u8 v s.out
  ne : v.ownBlock ≠ some m
/-- What an encoder's step turns. -/
structure Step (m : Nat) (v v' : Value) (w w' : World) : Prop where
  only : Only (fun k => k = m ∨ v.ownBlock = some k) w w'
  own : ∀ g, v'.ownBlock = some g → v.ownBlock = some g ∨ w.heap.size ≤ g
section
variable {m : Nat} {v v' v'' : Value} {w w' w'' : World} {s : St}
theorem Step.refl (m : Nat) (v : Value) (w : World) : Step m v v w w := ⟨Only.refl _ _, fun _ h => .inl h⟩
theorem Step.trans (a : Step m v v' w w') (b : Step m v' v'' w' w'') : Step m v v'' w w'' := by
  refine ⟨a.only.then b.only fun i hi => ?_, fun g hg => ?_⟩
  · rcases hi with hi | hi
    · exact .inl (.inl hi)
    · rcases a.own i hi with h | h
      · exact .inl (.inr h)
      · exact .inr h
  · rcases b.own g hg with h | h
    · exact a.own g h
    · exact .inr (Nat.le_trans a.only.size h)
theorem Step.drew (a : Step m v v' w w') : Step m v v' w w'.drew := ⟨a.only.drew, a.own⟩
theorem Step.set (a : Step m v v' w w') (i : Nat) (u : Value) : Step m v v' w (w'.setCell ⟨m, i, none⟩ u) := ⟨a.only.set (p := ⟨m, i, none⟩) (.inl (.inl rfl)) u, a.own⟩
theorem Step.below (a : Step m v v' w w') (b : Below w'.heap.size w' w'') : Step m v v' w w'' :=
  ⟨a.only.then (Only.of_below b : Only (fun _ => False) _ _) fun _ h => h.elim, a.own⟩
theorem Is.only {S : Nat → Prop} (a : Is w m s v) (o : Only S w w') (h1 : ¬ S m) (h2 : ∀ g, v.ownBlock = some g → ¬ S g) : Is w' m s v :=
  ⟨a.blk.of_same (o.block m a.blk.lt h1), a.sl.only o h2, a.ne⟩
theorem Is.below (a : Is w m s v) (b : Below w.heap.size w w') : Is w' m s v := a.only (Only.of_below b : Only (fun _ => False) _ _) (fun h => h) (fun _ _ h => h)
end
theorem info_u8 : (Try.prog.info? 5).map (fun i => (i.zero, i.size, i.bytes)) = some (some (.int .u8 0), 1, 1) := by kernel_rfl
/-- None yet. -/
def fresh : St := ⟨0, 4294967295, 1, 0, [], false⟩
theorem New_calls (w : World) : Calls Try.prog 22 #[] w fun e w' => e = .returned (.pointer (some ⟨w.heap.size, 0, none⟩)) ∧ Is w' w.heap.size fresh (.slice none 0 0) ∧ Below w.heap.size w w' := by
  go_enter Try.func22, Try.ntmps22
  go_wp2
  go_ret
  exact ⟨rfl, ⟨Blk.new _ _ _, Sl.nil _ _ _, fun h => by cases h⟩, ((Below.refl _ _).alloc (Nat.le_refl _) _ : Below _ _ _)⟩
set_option maxHeartbeats 2000000 in
set_option maxRecDepth 100000 in
theorem shift_calm {w : World} {m : Nat} {s : St} {v : Value} (a : Is w m s v) (ok : s.Ok) (hc : ¬ (s.lo < 4278190080 ∨ 4294967296 ≤ s.lo)) :
    Calls Try.prog 60 #[.pointer (some ⟨m, 0, none⟩)] w fun e w' => ∃ v', e = .returned (.tuple #[]) ∧ Is w' m (shiftS s) v' ∧ Step m v v' w w' := by
  have d0 := a.blk.cell (i := 0) rfl
  have d2 := a.blk.cell (i := 2) rfl
  have f0 := a.blk.free 0
  have f2 := a.blk.free 2
  have A := Lib.hid a
  obtain ⟨l0, l1, s0, s1, h0, i0, i1, sm⟩ := ok
  obtain ⟨lo, sz, he, fi, out, be⟩ := s
  simp only [St.k] at *
  have hm := u64_low24 lo l0 (by omega)
  have c1 : ¬ lo < 4278190080 := fun h => hc (.inl h)
  have c2 : ¬ 4294967296 ≤ lo := fun h => hc (.inr h)
  have HS : Hid (shiftS ⟨lo, sz, he, fi, out, be⟩ = ⟨lo % 16777216 * 256, sz, he + 1, fi, out, be⟩) := Lib.hid (by unfold shiftS; rw [if_neg hc])
  clear a hc
  go_enter Try.func60, Try.ntmps60
  go_wp2
  rw [HS.out]
  have e2 : ((he + 1 : Nat) : Int) = (he : Int) + 1 := by omega
  refine bodyPost_end (results_none rfl _ _ _) rfl ⟨rfl, v, ⟨?_, (A.out.sl.other (a := ⟨m, 2, none⟩) A.out.ne _).other (a := ⟨m, 0, none⟩) A.out.ne _, A.out.ne⟩, ((Step.refl m v w).set 2 _).set 0 _⟩
  rw [e2]
  exact (A.out.blk.set 2 (.int .i64 ((he : Int) + 1))).set 0 (.int .u64 (lo % 16777216 * 256))
/-- Where bytes are appended: the loop. -/
def Rl (w w0 : World) (m : Nat) (lo sz he fi : Int) (be : Bool) (v0 : Value) (xs : List Int) (v : Value) : Prop :=
  Blk w m 110 #[.int .u64 lo, .int .u32 sz, .int .i64 he, .int .u8 fi, v, .bool be] ∧ Sl w 5 .u8 v xs ∧ v.ownBlock ≠ some m ∧ Step m v0 v w0 w
theorem Rl.push {w w0 w1 : World} {m : Nat} {lo sz he fi : Int} {be : Bool} {v0 v : Value} {xs : List Int} (h : Rl w w0 m lo sz he fi be v0 xs v) {y : Int} {g cap : Nat} {o : Obj} (hp : Pushed (w.alloc o) w1 5 .u8 v g cap (xs ++ [y]) (w.heap.size + 1)) {n : Nat} (hn : xs.length = n) :
    Blk w1 m 110 #[.int .u64 lo, .int .u32 sz, .int .i64 he, .int .u8 fi, v, .bool be] ∧ Rl (w1.setCell ⟨m, 4, none⟩ (.slice (some ⟨g, 0, none⟩) (n + 1) cap)) w0 m lo sz he fi be v0 (xs ++ [y]) (.slice (some ⟨g, 0, none⟩) (n + 1) cap) := by
  obtain ⟨h1, h2, h3, h4⟩ := h
  have hml := h1.lt
  have b1 : Blk w1 m 110 #[.int .u64 lo, .int .u32 sz, .int .i64 he, .int .u8 fi, v, .bool be] := (h1.alloc o).of_same (hp.block (by simp; omega) h3)
  have hgm : g ≠ m := by
    rintro rfl
    rcases hp.at_ with h | h
    · exact h3 h
    · omega
  refine ⟨b1, b1.set 4 _, ?_, fun e => hgm (Option.some.inj e), ?_⟩
  · have := Sl.row (hp.row.other (a := ⟨m, 4, none⟩) hgm (.slice (some ⟨g, 0, none⟩) (n + 1) cap))
    have hl : (xs ++ [y]).length = n + 1 := by simp [hn]
    rw [hl] at this
    exact this
  · have s1 : Step m v (.slice (some ⟨g, 0, none⟩) (n + 1) cap) w (w1.setCell ⟨m, 4, none⟩ (.slice (some ⟨g, 0, none⟩) (n + 1) cap)) := by
      refine ⟨(((Only.refl _ w).alloc o).then hp.only (fun i hi => .inl (.inr hi))).set (p := ⟨m, 4, none⟩) (.inl (.inl rfl)) _, fun g' hg' => ?_⟩
      have e : g = g' := Option.some.inj hg'
      subst e
      rcases hp.at_ with h | h
      · exact .inl h
      · exact .inr (by omega)
    exact h4.trans s1
theorem Rl.drew {w w0 : World} {m : Nat} {lo sz he fi : Int} {be : Bool} {v0 v : Value} {xs : List Int} (h : Rl w w0 m lo sz he fi be v0 xs v) : Rl w.drew w0 m lo sz he fi be v0 xs v := ⟨h.1, h.2.1, h.2.2.1, h.2.2.2.drew⟩
theorem Rl.he {w w0 : World} {m : Nat} {lo sz he fi : Int} {be : Bool} {v0 v : Value} {xs : List Int} (h : Rl w w0 m lo sz he fi be v0 xs v) (he' : Int) : Rl (w.setCell ⟨m, 2, none⟩ (.int .i64 he')) w0 m lo sz he' fi be v0 xs v :=
  ⟨h.1.set 2 _, h.2.1.other (a := ⟨m, 2, none⟩) h.2.2.1 _, h.2.2.1, h.2.2.2.set 2 _⟩
set_option maxHeartbeats 8000000 in
set_option maxRecDepth 100000 in
theorem shift_loud {w : World} {m : Nat} {s : St} {v : Value} (a : Is w m s v) (ok : s.Ok) (hc : s.lo < 4278190080 ∨ 4294967296 ≤ s.lo) :
    Calls Try.prog 60 #[.pointer (some ⟨m, 0, none⟩)] w fun e w' => ∃ v', e = .returned (.tuple #[]) ∧ Is w' m (shiftS s) v' ∧ Step m v v' w w' := by
  have d0 := a.blk.cell (i := 0) rfl
  have d3 := a.blk.cell (i := 3) rfl
  have d4 := a.blk.cell (i := 4) rfl
  have d5 := a.blk.cell (i := 5) rfl
  have f4 := a.blk.free 4
  have A := Lib.hid a
  obtain ⟨l0, l1, s0, s1, h0, i0, i1, sm⟩ := ok
  obtain ⟨lo, sz, he, fi, out, be⟩ := s
  simp only [St.k] at *
  have hm := u64_low24 lo l0 (by omega)
  have HS : Hid (shiftS ⟨lo, sz, he, fi, out, be⟩ = ⟨lo % 16777216 * 256, sz, 1, lo / 16777216 % 256, flush ⟨lo, sz, he, fi, out, be⟩, true⟩) := Lib.hid (by unfold shiftS; rw [if_pos hc])
  have HR : Hid (Rl w w m lo sz he fi be v out v) := Lib.hid ⟨A.out.blk, A.out.sl, A.out.ne, Step.refl m v w⟩
  have hov : 0 ≤ lo / 4294967296 ∧ lo / 4294967296 ≤ 1 := by omega
  have hml := a.blk.lt
  have ew : IntKind.u8.wrap (fi + lo / 4294967296) = (fi + lo / 4294967296) % 256 := IntKind.wrap_u8 _
  obtain ⟨n, hn⟩ : ∃ n, out.length = n := ⟨_, rfl⟩
  have HN := Lib.hid hn
  rw [hn] at sm
  clear a hn
  have hc2 : lo < 4278190080 ∨ (¬ lo < 4278190080 ∧ 4294967296 ≤ lo) := by omega
  clear hc
  obtain ⟨pre, hpre⟩ : ∃ pre, pre = (if be = true then out ++ [(fi + lo / 4294967296) % 256] else out) := ⟨_, rfl⟩
  have hpl : pre.length ≤ n + 1 := by rw [hpre]; have := HN.out; split <;> simp <;> omega
  have hfl : flush ⟨lo, sz, he, fi, out, be⟩ = pre ++ List.replicate (he - 1) ((255 + lo / 4294967296) % 256) := by rw [hpre]; rfl
  have HPre := Lib.hid hpre
  have HFl := Lib.hid hfl
  clear hpre hfl
  rcases hc2 with hc | ⟨hc0, hc⟩
  all_goals
    go_enter Try.func60, Try.ntmps60
    go_upto_if 24 with (fail)
    go_cut [] (fun wc => ∃ v1, Hid (Rl wc w m lo sz he fi be v pre v1))
    case first =>
      cases be with
      | true =>
        have hp2 : pre = out ++ [(fi + lo / 4294967296) % 256] := by rw [HPre.out]; rfl
        clear HPre HFl hpl
        subst hp2
        go_wp2
        go_region_law ((refine step_push _ _ _ 5 .u8 0 1 (by rfl) (by rfl) Try.underlying35 info_u8 v out n ((fi + lo / 4294967296) % 256) ⟨w.heap.size, 0, none⟩ (w.heap.size + 1) (by rfl) (by rfl) ?_ HN.out ?_ ?_ ?_ ?_ ?_
                        · exact (A.out.sl.alloc _).drew
                        · exact (Blk.new w _ _).cell (i := 0) rfl
                        · simp
                        · omega
                        · omega
                        intro g cap w1 hp
                        obtain ⟨b1, r1⟩ := HR.out.drew.push hp HN.out
                        have x4 := b1.free 4
                        have x4' := b1.cell (i := 4) rfl
                        have HR1 := Lib.hid r1
                        clear hp r1))
        all_goals (go_wp2; go_meet)
        all_goals exact ⟨_, HR1⟩
      | false =>
        have hp2 : pre = out := by rw [HPre.out]; rfl
        clear HPre HFl hpl
        subst hp2
        go_wp2
        go_meet
        exact ⟨_, HR⟩
    case rest =>
      clear d0 d3 d4 d5 f4 A HR ew hc
      try clear hc0
      obtain ⟨v1, HR⟩ := hcut
      go_wp2
      go_loopg [] (he - 1) (fun j wr => ∃ (i : Nat) (v2 : Value), i + j + 1 = he ∧ Hid (Rl wr w m lo sz ((j : Int) + 1) fi be v (pre ++ List.replicate i ((255 + lo / 4294967296) % 256)) v2))
      case atStart => exact ⟨0, v1, by omega, by rw [show ((he - 1 : Nat) : Int) + 1 = he from by omega, List.replicate_zero, List.append_nil]; exact HR⟩
      case round =>
        clear HR
        obtain ⟨i, v2, hij, HR⟩ := hrel
        have e2 := HR.out.1.cell (i := 2) rfl
        have e4 := HR.out.1.cell (i := 4) rfl
        have g2 := HR.out.1.free 2
        have hml := HR.out.1.lt
        by_cases hj : 0 < gk
        · have hlen : (pre ++ List.replicate i ((255 + lo / 4294967296) % 256)).length = pre.length + i := by simp
          have ew : IntKind.u8.wrap (255 + lo / 4294967296) = (255 + lo / 4294967296) % 256 := IntKind.wrap_u8 _
          go_wp2_with (first
            | (at_builtin; refine wpList_push (.tmp 56) (.tmp 59) 35 5 .u8 0 1 rfl rfl Try.underlying35 info_u8 v2 (pre ++ List.replicate i ((255 + lo / 4294967296) % 256)) (pre.length + i) ((255 + lo / 4294967296) % 256) ⟨wr.heap.size, 0, none⟩ (wr.heap.size + 1) rfl rfl (HR.out.2.1.alloc _) hlen ((Blk.new wr _ _).cell rfl) (by simp) (by omega) (by omega) ?_
               intro g cap w1 hp
               obtain ⟨b1, r1⟩ := HR.out.push hp hlen
               have x4 := b1.free 4
               have x4' := b1.cell (i := 4) rfl
               have x2 := r1.1.cell (i := 2) rfl
               have y2 := r1.1.free 2
               have HR1 := Lib.hid r1
               clear hp r1 e2 e4 g2))
          go_roundg (gk - 1)
          case measure => omega
          case rel =>
            refine ⟨i + 1, .slice (some ⟨g, 0, none⟩) (pre.length + i + 1) cap, by omega, ?_⟩
            have := HR1.out.he (gk : Int)
            rw [List.append_assoc, List.replicate_append_replicate.symm] at *
            rw [show ((gk - 1 : Nat) : Int) + 1 = gk from by omega]
            exact this
        · obtain rfl : gk = 0 := by omega
          obtain rfl : i = he - 1 := by omega
          have e0 := HR.out.1.cell (i := 0) rfl
          have g3 := HR.out.1.free 3
          have e3 := HR.out.1.cell (i := 3) rfl
          have e5 := HR.out.1.cell (i := 5) rfl
          have ew : IntKind.u8.wrap (lo / 16777216) = lo / 16777216 % 256 := IntKind.wrap_u8 _
          have g5 := HR.out.1.free 5
          have g0 := HR.out.1.free 0
          go_wp2
          rw [HS.out, HFl.out]
          have hb := (((((HR.out.1.set 2 (.int .i64 0)).set 3 (.int .u8 (lo / 16777216 % 256))).set 5 (.bool true)).set 2 (.int .i64 1))).set 0 (.int .u64 (lo % 16777216 * 256))
          have hs := (((((HR.out.2.1.other (a := ⟨m, 2, none⟩) HR.out.2.2.1 (.int .i64 0)).other (a := ⟨m, 3, none⟩) HR.out.2.2.1 (.int .u8 (lo / 16777216 % 256))).other (a := ⟨m, 5, none⟩) HR.out.2.2.1 (.bool true)).other (a := ⟨m, 2, none⟩) HR.out.2.2.1 (.int .i64 1))).other (a := ⟨m, 0, none⟩) HR.out.2.2.1 (.int .u64 (lo % 16777216 * 256))
          have ht := (((((HR.out.2.2.2.set 2 (.int .i64 0)).set 3 (.int .u8 (lo / 16777216 % 256))).set 5 (.bool true)).set 2 (.int .i64 1))).set 0 (.int .u64 (lo % 16777216 * 256))
          have hfin : Is (((((wr.setCell ⟨m, 2, none⟩ (.int .i64 0)).setCell ⟨m, 3, none⟩ (.int .u8 (lo / 16777216 % 256))).setCell ⟨m, 5, none⟩ (.bool true)).setCell ⟨m, 2, none⟩ (.int .i64 1)).setCell ⟨m, 0, none⟩ (.int .u64 (lo % 16777216 * 256))) m ⟨lo % 16777216 * 256, sz, 1, lo / 16777216 % 256, pre ++ List.replicate (he - 1) ((255 + lo / 4294967296) % 256), true⟩ v2 := ⟨hb, hs, HR.out.2.2.1⟩
          exact bodyPost_end (results_none rfl _ _ _) rfl ⟨v2, rfl, hfin, ht⟩
theorem shift_calls {w : World} {m : Nat} {s : St} {v : Value} (a : Is w m s v) (ok : s.Ok) :
    Calls Try.prog 60 #[.pointer (some ⟨m, 0, none⟩)] w fun e w' => ∃ v', e = .returned (.tuple #[]) ∧ Is w' m (shiftS s) v' ∧ Step m v v' w w' := by
  by_cases hc : s.lo < 4278190080 ∨ 4294967296 ≤ s.lo
  · exact shift_loud a ok hc
  · exact shift_calm a ok hc
end Go.Proofs.Ytlbjoflmfboeeaa.Enc
