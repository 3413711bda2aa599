/- Texts of this session, merged. -/
import Derived.Test.YtlbjoflmfboeeaaMea1
import Derived.Laws.BitsLemmas
import Derived.Lib.SliceRun
/-
  The program's encoder: what it holds, and the walks of New, shift, Put, Len; no condition but those told.
-/
set_option linter.unusedVariables false
set_option linter.unusedSimpArgs false
namespace Go.Proofs.Ytlbjoflmfboeeaa.Enc
open Go.RowKit Go.Proofs.Ytlbjoflmfboeeaa Go.Proofs.YtlbjoflmfboeeaaW.PrintWords

theorem wraps_u64 (n : Int) (h₀ : 0 ≤ n) (h₁ : n < 2 ^ 64) : IntKind.u64.wrap n = n := by
  unfold IntKind.wrap
  simp only [IntKind.bits, IntKind.signed]
  simp
  omega
theorem wraps_u32 (n : Int) (h₀ : 0 ≤ n) (h₁ : n < 2 ^ 32) : IntKind.u32.wrap n = n := by rw [IntKind.wrap_u32]; omega
theorem u64_low24 (x : Int) (h₀ : 0 ≤ x) (h₁ : x < 18446744073709551616) : bits .and .u64 x 16777215 = x % 16777216 := bits_mask .u64 64 (by decide) wraps_u64 24 (by decide) x h₀ h₁
/-- What an encoder holds. -/
structure St where
  lo : Int
  sz : Int
  he : Nat
  fi : Int
  out : List Int
  be : Bool
def over (s : St) : Int := s.lo / 4294967296
def flush (s : St) : List Int := (if s.be = true then s.out ++ [(s.fi + over s) % 256] else s.out) ++ List.replicate (s.he - 1) ((255 + over s) % 256)
def shiftS (s : St) : St :=
  if s.lo < 4278190080 ∨ 4294967296 ≤ s.lo then ⟨s.lo % 16777216 * 256, s.sz, 1, s.lo / 16777216 % 256, flush s, true⟩
  else ⟨s.lo % 16777216 * 256, s.sz, s.he + 1, s.fi, s.out, s.be⟩
/-- How many bytes there are, but for the last four. -/
def St.k (s : St) : Nat := s.out.length + s.he - 1 + (if s.be = true then 1 else 0)
structure St.Ok (s : St) : Prop where
  lo0 : 0 ≤ s.lo
  lo1 : s.lo < 8589934592
  sz0 : 0 ≤ s.sz
  sz1 : s.sz < 4294967296
  he0 : 1 ≤ s.he
  fi0 : 0 ≤ s.fi
  fi1 : s.fi < 256
  small : s.k ≤ 1000000000
theorem flush_len (s : St) (h : 1 ≤ s.he) : (flush s).length = s.k := by
  unfold flush St.k
  rw [List.length_append, List.length_replicate]
  split <;> simp_all <;> omega
theorem shift_k (s : St) (h : 1 ≤ s.he) : (shiftS s).k = s.k + 1 := by
  unfold shiftS
  split
  · have := flush_len s h
    unfold St.k at this ⊢
    simp at this ⊢
    omega
  · unfold St.k
    simp only
    omega
/-- The program's encoder: block m. -/
structure Is (w : World) (m : Nat) (s : St) (v : Value) : Prop where
  blk : Blk w m 110 #[.int .u64 s.lo, .int .u32 s.sz, .int .i64 s.he, .int .u8 s.fi, v, .bool s.be]
  sl : Sl w 5 .u8 v s.out
  ne : v.ownBlock ≠ some m
/-- What an encoder's step turns. -/
structure Step (m : Nat) (v v' : Value) (w w' : World) : Prop where
  only : Only (fun k => k = m ∨ v.ownBlock = some k) w w'
  own : ∀ g, v'.ownBlock = some g → v.ownBlock = some g ∨ w.heap.size ≤ g
section
variable {m : Nat} {v v' v'' : Value} {w w' w'' : World} {s : St}
theorem Step.refl (m : Nat) (v : Value) (w : World) : Step m v v w w := ⟨Only.refl _ _, fun _ h => .inl h⟩
theorem Step.trans (a : Step m v v' w w') (b : Step m v' v'' w' w'') : Step m v v'' w w'' := by
  refine ⟨a.only.then b.only fun i hi => ?_, fun g hg => ?_⟩
  · rcases hi with hi | hi
    · exact .inl (.inl hi)
    · rcases a.own i hi with h | h
      · exact .inl (.inr h)
      · exact .inr h
  · rcases b.own g hg with h | h
    · exact a.own g h
    · exact .inr (Nat.le_trans a.only.size h)
theorem Step.drew (a : Step m v v' w w') : Step m v v' w w'.drew := ⟨a.only.drew, a.own⟩
theorem Step.set (a : Step m v v' w w') (i : Nat) (u : Value) : Step m v v' w (w'.setCell ⟨m, i, none⟩ u) := ⟨a.only.set (p := ⟨m, i, none⟩) (.inl (.inl rfl)) u, a.own⟩
theorem Step.below (a : Step m v v' w w') (b : Below w'.heap.size w' w'') : Step m v v' w w'' :=
  ⟨a.only.then (Only.of_below b : Only (fun _ => False) _ _) fun _ h => h.elim, a.own⟩
theorem Is.only {S : Nat → Prop} (a : Is w m s v) (o : Only S w w') (h1 : ¬ S m) (h2 : ∀ g, v.ownBlock = some g → ¬ S g) : Is w' m s v :=
  ⟨a.blk.of_same (o.block m a.blk.lt h1), a.sl.only o h2, a.ne⟩
theorem Is.below (a : Is w m s v) (b : Below w.heap.size w w') : Is w' m s v := a.only (Only.of_below b : Only (fun _ => False) _ _) (fun h => h) (fun _ _ h => h)
end
theorem info_u8 : (Try.prog.info? 5).map (fun i => (i.zero, i.size, i.bytes)) = some (some (.int .u8 0), 1, 1) := by kernel_rfl
/-- None yet. -/
def fresh : St := ⟨0, 4294967295, 1, 0, [], false⟩
theorem New_calls (w : World) : Calls Try.prog 22 #[] w fun e w' => e = .returned (.pointer (some ⟨w.heap.size, 0, none⟩)) ∧ Is w' w.heap.size fresh (.slice none 0 0) ∧ Below w.heap.size w w' := by
  go_enter Try.func22, Try.ntmps22
  go_wp2
  go_ret
  exact ⟨rfl, ⟨Blk.new _ _ _, Sl.nil _ _ _, fun h => by cases h⟩, ((Below.refl _ _).alloc (Nat.le_refl _) _ : Below _ _ _)⟩
set_option maxHeartbeats 2000000 in
set_option maxRecDepth 100000 in
theorem shift_calm {w : World} {m : Nat} {s : St} {v : Value} (a : Is w m s v) (ok : s.Ok) (hc : ¬ (s.lo < 4278190080 ∨ 4294967296 ≤ s.lo)) :
    Calls Try.prog 60 #[.pointer (some ⟨m, 0, none⟩)] w fun e w' => ∃ v', e = .returned (.tuple #[]) ∧ Is w' m (shiftS s) v' ∧ Step m v v' w w' := by
  have d0 := a.blk.cell (i := 0) rfl
  have d2 := a.blk.cell (i := 2) rfl
  have f0 := a.blk.free 0
  have f2 := a.blk.free 2
  have A := Lib.hid a
  obtain ⟨l0, l1, s0, s1, h0, i0, i1, sm⟩ := ok
  obtain ⟨lo, sz, he, fi, out, be⟩ := s
  simp only [St.k] at *
  have hm := u64_low24 lo l0 (by omega)
  have c1 : ¬ lo < 4278190080 := fun h => hc (.inl h)
  have c2 : ¬ 4294967296 ≤ lo := fun h => hc (.inr h)
  have HS : Hid (shiftS ⟨lo, sz, he, fi, out, be⟩ = ⟨lo % 16777216 * 256, sz, he + 1, fi, out, be⟩) := Lib.hid (by unfold shiftS; rw [if_neg hc])
  clear a hc
  go_enter Try.func60, Try.ntmps60
  go_wp2
  rw [HS.out]
  have e2 : ((he + 1 : Nat) : Int) = (he : Int) + 1 := by omega
  refine bodyPost_end (results_none rfl _ _ _) rfl ⟨rfl, v, ⟨?_, (A.out.sl.other (a := ⟨m, 2, none⟩) A.out.ne _).other (a := ⟨m, 0, none⟩) A.out.ne _, A.out.ne⟩, ((Step.refl m v w).set 2 _).set 0 _⟩
  rw [e2]
  exact (A.out.blk.set 2 (.int .i64 ((he : Int) + 1))).set 0 (.int .u64 (lo % 16777216 * 256))
/-- Where bytes are appended: the loop. -/
def Rl (w w0 : World) (m : Nat) (lo sz he fi : Int) (be : Bool) (v0 : Value) (xs : List Int) (v : Value) : Prop :=
  Blk w m 110 #[.int .u64 lo, .int .u32 sz, .int .i64 he, .int .u8 fi, v, .bool be] ∧ Sl w 5 .u8 v xs ∧ v.ownBlock ≠ some m ∧ Step m v0 v w0 w
theorem Rl.push {w w0 w1 : World} {m : Nat} {lo sz he fi : Int} {be : Bool} {v0 v : Value} {xs : List Int} (h : Rl w w0 m lo sz he fi be v0 xs v) {y : Int} {g cap : Nat} {o : Obj} (hp : Pushed (w.alloc o) w1 5 .u8 v g cap (xs ++ [y]) (w.heap.size + 1)) {n : Nat} (hn : xs.length = n) :
    Blk w1 m 110 #[.int .u64 lo, .int .u32 sz, .int .i64 he, .int .u8 fi, v, .bool be] ∧ Rl (w1.setCell ⟨m, 4, none⟩ (.slice (some ⟨g, 0, none⟩) (n + 1) cap)) w0 m lo sz he fi be v0 (xs ++ [y]) (.slice (some ⟨g, 0, none⟩) (n + 1) cap) := by
  obtain ⟨h1, h2, h3, h4⟩ := h
  have hml := h1.lt
  have b1 : Blk w1 m 110 #[.int .u64 lo, .int .u32 sz, .int .i64 he, .int .u8 fi, v, .bool be] := (h1.alloc o).of_same (hp.block (by simp; omega) h3)
  have hgm : g ≠ m := by
    rintro rfl
    rcases hp.at_ with h | h
    · exact h3 h
    · omega
  refine ⟨b1, b1.set 4 _, ?_, fun e => hgm (Option.some.inj e), ?_⟩
  · have := Sl.row (hp.row.other (a := ⟨m, 4, none⟩) hgm (.slice (some ⟨g, 0, none⟩) (n + 1) cap))
    have hl : (xs ++ [y]).length = n + 1 := by simp [hn]
    rw [hl] at this
    exact this
  · have s1 : Step m v (.slice (some ⟨g, 0, none⟩) (n + 1) cap) w (w1.setCell ⟨m, 4, none⟩ (.slice (some ⟨g, 0, none⟩) (n + 1) cap)) := by
      refine ⟨(((Only.refl _ w).alloc o).then hp.only (fun i hi => .inl (.inr hi))).set (p := ⟨m, 4, none⟩) (.inl (.inl rfl)) _, fun g' hg' => ?_⟩
      have e : g = g' := Option.some.inj hg'
      subst e
      rcases hp.at_ with h | h
      · exact .inl h
      · exact .inr (by omega)
    exact h4.trans s1
theorem Rl.drew {w w0 : World} {m : Nat} {lo sz he fi : Int} {be : Bool} {v0 v : Value} {xs : List Int} (h : Rl w w0 m lo sz he fi be v0 xs v) : Rl w.drew w0 m lo sz he fi be v0 xs v := ⟨h.1, h.2.1, h.2.2.1, h.2.2.2.drew⟩
theorem Rl.he {w w0 : World} {m : Nat} {lo sz he fi : Int} {be : Bool} {v0 v : Value} {xs : List Int} (h : Rl w w0 m lo sz he fi be v0 xs v) (he' : Int) : Rl (w.setCell ⟨m, 2, none⟩ (.int .i64 he')) w0 m lo sz he' fi be v0 xs v :=
  ⟨h.1.set 2 _, h.2.1.other (a := ⟨m, 2, none⟩) h.2.2.1 _, h.2.2.1, h.2.2.2.set 2 _⟩
set_option maxHeartbeats 8000000 in
set_option maxRecDepth 100000 in
theorem shift_loud {w : World} {m : Nat} {s : St} {v : Value} (a : Is w m s v) (ok : s.Ok) (hc : s.lo < 4278190080 ∨ 4294967296 ≤ s.lo) :
    Calls Try.prog 60 #[.pointer (some ⟨m, 0, none⟩)] w fun e w' => ∃ v', e = .returned (.tuple #[]) ∧ Is w' m (shiftS s) v' ∧ Step m v v' w w' := by
  have d0 := a.blk.cell (i := 0) rfl
  have d3 := a.blk.cell (i := 3) rfl
  have d4 := a.blk.cell (i := 4) rfl
  have d5 := a.blk.cell (i := 5) rfl
  have f4 := a.blk.free 4
  have A := Lib.hid a
  obtain ⟨l0, l1, s0, s1, h0, i0, i1, sm⟩ := ok
  obtain ⟨lo, sz, he, fi, out, be⟩ := s
  simp only [St.k] at *
  have hm := u64_low24 lo l0 (by omega)
  have HS : Hid (shiftS ⟨lo, sz, he, fi, out, be⟩ = ⟨lo % 16777216 * 256, sz, 1, lo / 16777216 % 256, flush ⟨lo, sz, he, fi, out, be⟩, true⟩) := Lib.hid (by unfold shiftS; rw [if_pos hc])
  have HR : Hid (Rl w w m lo sz he fi be v out v) := Lib.hid ⟨A.out.blk, A.out.sl, A.out.ne, Step.refl m v w⟩
  have hov : 0 ≤ lo / 4294967296 ∧ lo / 4294967296 ≤ 1 := by omega
  have hml := a.blk.lt
  have ew : IntKind.u8.wrap (fi + lo / 4294967296) = (fi + lo / 4294967296) % 256 := IntKind.wrap_u8 _
  obtain ⟨n, hn⟩ : ∃ n, out.length = n := ⟨_, rfl⟩
  have HN := Lib.hid hn
  rw [hn] at sm
  clear a hn
  have hc2 : lo < 4278190080 ∨ (¬ lo < 4278190080 ∧ 4294967296 ≤ lo) := by omega
  clear hc
  obtain ⟨pre, hpre⟩ : ∃ pre, pre = (if be = true then out ++ [(fi + lo / 4294967296) % 256] else out) := ⟨_, rfl⟩
  have hpl : pre.length ≤ n + 1 := by rw [hpre]; have := HN.out; split <;> simp <;> omega
  have hfl : flush ⟨lo, sz, he, fi, out, be⟩ = pre ++ List.replicate (he - 1) ((255 + lo / 4294967296) % 256) := by rw [hpre]; rfl
  have HPre := Lib.hid hpre
  have HFl := Lib.hid hfl
  clear hpre hfl
  rcases hc2 with hc | ⟨hc0, hc⟩
  all_goals
    go_enter Try.func60, Try.ntmps60
    go_upto_if 24 with (fail)
    go_cut [] (fun wc => ∃ v1, Hid (Rl wc w m lo sz he fi be v pre v1))
    case first =>
      cases be with
      | true =>
        have hp2 : pre = out ++ [(fi + lo / 4294967296) % 256] := by rw [HPre.out]; rfl
        clear HPre HFl hpl
        subst hp2
        go_wp2
        go_region_law ((refine step_push _ _ _ 5 .u8 0 1 (by rfl) (by rfl) Try.underlying35 info_u8 v out n ((fi + lo / 4294967296) % 256) ⟨w.heap.size, 0, none⟩ (w.heap.size + 1) (by rfl) (by rfl) ?_ HN.out ?_ ?_ ?_ ?_ ?_
                        · exact (A.out.sl.alloc _).drew
                        · exact (Blk.new w _ _).cell (i := 0) rfl
                        · simp
                        · omega
                        · omega
                        intro g cap w1 hp
                        obtain ⟨b1, r1⟩ := HR.out.drew.push hp HN.out
                        have x4 := b1.free 4
                        have x4' := b1.cell (i := 4) rfl
                        have HR1 := Lib.hid r1
                        clear hp r1))
        all_goals (go_wp2; go_meet)
        all_goals exact ⟨_, HR1⟩
      | false =>
        have hp2 : pre = out := by rw [HPre.out]; rfl
        clear HPre HFl hpl
        subst hp2
        go_wp2
        go_meet
        exact ⟨_, HR⟩
    case rest =>
      clear d0 d3 d4 d5 f4 A HR ew hc
      try clear hc0
      obtain ⟨v1, HR⟩ := hcut
      go_wp2
      go_loopg [] (he - 1) (fun j wr => ∃ (i : Nat) (v2 : Value), i + j + 1 = he ∧ Hid (Rl wr w m lo sz ((j : Int) + 1) fi be v (pre ++ List.replicate i ((255 + lo / 4294967296) % 256)) v2))
      case atStart => exact ⟨0, v1, by omega, by rw [show ((he - 1 : Nat) : Int) + 1 = he from by omega, List.replicate_zero, List.append_nil]; exact HR⟩
      case round =>
        clear HR
        obtain ⟨i, v2, hij, HR⟩ := hrel
        have e2 := HR.out.1.cell (i := 2) rfl
        have e4 := HR.out.1.cell (i := 4) rfl
        have g2 := HR.out.1.free 2
        have hml := HR.out.1.lt
        by_cases hj : 0 < gk
        · have hlen : (pre ++ List.replicate i ((255 + lo / 4294967296) % 256)).length = pre.length + i := by simp
          have ew : IntKind.u8.wrap (255 + lo / 4294967296) = (255 + lo / 4294967296) % 256 := IntKind.wrap_u8 _
          go_wp2_with (first
            | (at_builtin; refine wpList_push (.tmp 56) (.tmp 59) 35 5 .u8 0 1 rfl rfl Try.underlying35 info_u8 v2 (pre ++ List.replicate i ((255 + lo / 4294967296) % 256)) (pre.length + i) ((255 + lo / 4294967296) % 256) ⟨wr.heap.size, 0, none⟩ (wr.heap.size + 1) rfl rfl (HR.out.2.1.alloc _) hlen ((Blk.new wr _ _).cell rfl) (by simp) (by omega) (by omega) ?_
               intro g cap w1 hp
               obtain ⟨b1, r1⟩ := HR.out.push hp hlen
               have x4 := b1.free 4
               have x4' := b1.cell (i := 4) rfl
               have x2 := r1.1.cell (i := 2) rfl
               have y2 := r1.1.free 2
               have HR1 := Lib.hid r1
               clear hp r1 e2 e4 g2))
          go_roundg (gk - 1)
          case measure => omega
          case rel =>
            refine ⟨i + 1, .slice (some ⟨g, 0, none⟩) (pre.length + i + 1) cap, by omega, ?_⟩
            have := HR1.out.he (gk : Int)
            rw [List.append_assoc, List.replicate_append_replicate.symm] at *
            rw [show ((gk - 1 : Nat) : Int) + 1 = gk from by omega]
            exact this
        · obtain rfl : gk = 0 := by omega
          obtain rfl : i = he - 1 := by omega
          have e0 := HR.out.1.cell (i := 0) rfl
          have g3 := HR.out.1.free 3
          have e3 := HR.out.1.cell (i := 3) rfl
          have e5 := HR.out.1.cell (i := 5) rfl
          have ew : IntKind.u8.wrap (lo / 16777216) = lo / 16777216 % 256 := IntKind.wrap_u8 _
          have g5 := HR.out.1.free 5
          have g0 := HR.out.1.free 0
          go_wp2
          rw [HS.out, HFl.out]
          have hb := (((((HR.out.1.set 2 (.int .i64 0)).set 3 (.int .u8 (lo / 16777216 % 256))).set 5 (.bool true)).set 2 (.int .i64 1))).set 0 (.int .u64 (lo % 16777216 * 256))
          have hs := (((((HR.out.2.1.other (a := ⟨m, 2, none⟩) HR.out.2.2.1 (.int .i64 0)).other (a := ⟨m, 3, none⟩) HR.out.2.2.1 (.int .u8 (lo / 16777216 % 256))).other (a := ⟨m, 5, none⟩) HR.out.2.2.1 (.bool true)).other (a := ⟨m, 2, none⟩) HR.out.2.2.1 (.int .i64 1))).other (a := ⟨m, 0, none⟩) HR.out.2.2.1 (.int .u64 (lo % 16777216 * 256))
          have ht := (((((HR.out.2.2.2.set 2 (.int .i64 0)).set 3 (.int .u8 (lo / 16777216 % 256))).set 5 (.bool true)).set 2 (.int .i64 1))).set 0 (.int .u64 (lo % 16777216 * 256))
          have hfin : Is (((((wr.setCell ⟨m, 2, none⟩ (.int .i64 0)).setCell ⟨m, 3, none⟩ (.int .u8 (lo / 16777216 % 256))).setCell ⟨m, 5, none⟩ (.bool true)).setCell ⟨m, 2, none⟩ (.int .i64 1)).setCell ⟨m, 0, none⟩ (.int .u64 (lo % 16777216 * 256))) m ⟨lo % 16777216 * 256, sz, 1, lo / 16777216 % 256, pre ++ List.replicate (he - 1) ((255 + lo / 4294967296) % 256), true⟩ v2 := ⟨hb, hs, HR.out.2.2.1⟩
          exact bodyPost_end (results_none rfl _ _ _) rfl ⟨v2, rfl, hfin, ht⟩
theorem shift_calls {w : World} {m : Nat} {s : St} {v : Value} (a : Is w m s v) (ok : s.Ok) :
    Calls Try.prog 60 #[.pointer (some ⟨m, 0, none⟩)] w fun e w' => ∃ v', e = .returned (.tuple #[]) ∧ Is w' m (shiftS s) v' ∧ Step m v v' w w' := by
  by_cases hc : s.lo < 4278190080 ∨ 4294967296 ≤ s.lo
  · exact shift_loud a ok hc
  · exact shift_calm a ok hc
end Go.Proofs.Ytlbjoflmfboeeaa.Enc

/-
  The walks of the program's encoder: Put, Symbol, Bits, Len; no condition but those told.
-/
set_option linter.unusedVariables false
set_option linter.unusedSimpArgs false
namespace Go.Proofs.Ytlbjoflmfboeeaa.Enc
open Go.RowKit Go.Proofs.Ytlbjoflmfboeeaa Go.Proofs.YtlbjoflmfboeeaaW.PrintWords

def step1 (s : St) : St := shiftS ⟨s.lo, s.sz * 256, s.he, s.fi, s.out, s.be⟩
def norm : Nat → St → St
  | 0, s => s
  | n + 1, s => if s.sz < 16777216 then norm n (step1 s) else s
def putS (s : St) (lo ow al : Int) : St := norm 2 ⟨s.lo + s.sz / al * lo, s.sz / al * ow, s.he, s.fi, s.out, s.be⟩
/-- An encoder as it is between parts. -/
structure St.Ready (s : St) : Prop where
  lo0 : 0 ≤ s.lo
  sum : s.lo + s.sz < 8589934592
  sz0 : 16777216 ≤ s.sz
  sz1 : s.sz < 4294967296
  he0 : 1 ≤ s.he
  fi0 : 0 ≤ s.fi
  fi1 : s.fi < 256
theorem shiftS_lo (s : St) : 0 ≤ (shiftS s).lo ∧ (shiftS s).lo < 4294967296 := by
  unfold shiftS; split <;> (simp only; omega)
theorem shiftS_sz (s : St) : (shiftS s).sz = s.sz := by unfold shiftS; split <;> rfl
theorem shiftS_he (s : St) (h : 1 ≤ s.he) : 1 ≤ (shiftS s).he := by unfold shiftS; split <;> (simp only; omega)
theorem shiftS_fi (s : St) (h0 : 0 ≤ s.fi) (h1 : s.fi < 256) : 0 ≤ (shiftS s).fi ∧ (shiftS s).fi < 256 := by unfold shiftS; split <;> (simp only; omega)
theorem mul_bd (e x a sz : Int) (he : e = sz / a) (ha : 0 < a) (hx0 : 0 ≤ x) (hxa : x ≤ a) (hs : 0 ≤ sz) : 0 ≤ e * x ∧ e * x ≤ sz := by
  subst he
  have h1 : 0 ≤ sz / a := Int.ediv_nonneg hs (by omega)
  refine ⟨Int.mul_nonneg h1 hx0, ?_⟩
  have h2 : sz / a * x ≤ sz / a * a := Int.mul_le_mul_of_nonneg_left hxa h1
  have h3 : sz / a * a ≤ sz := Int.ediv_mul_le sz (by omega)
  omega
theorem each_lo (al sz : Int) (h1 : 1 ≤ al) (h2 : al ≤ 8192) (h3 : 16777216 ≤ sz) : 2048 ≤ sz / al := by
  rw [Int.le_ediv_iff_mul_le (by omega)]
  omega
def lw : Nat → Int
  | 0 => 16777216
  | 1 => 65536
  | _ => 256
/-- A part that may be. -/
def May (lo ow al : Int) : Prop := 0 ≤ lo ∧ 1 ≤ ow ∧ lo + ow ≤ al ∧ al ≤ 8192
theorem norm_ready (n : Nat) (hn : n ≤ 2) : ∀ (t : St), 0 ≤ t.lo → t.lo + t.sz < 8589934592 → lw n ≤ t.sz → t.sz < 4294967296 → 1 ≤ t.he → 0 ≤ t.fi → t.fi < 256 → (norm n t).Ready ∧ t.k ≤ (norm n t).k ∧ (norm n t).k ≤ t.k + n := by
  induction n with
  | zero =>
    intro t h1 h2 h3 h4 h5 h6 h7
    exact ⟨⟨h1, h2, h3, h4, h5, h6, h7⟩, Nat.le_refl _, Nat.le_refl _⟩
  | succ n ih =>
    intro t h1 h2 h3 h4 h5 h6 h7
    unfold norm
    by_cases hc : t.sz < 16777216
    · rw [if_pos hc]
      have hlw2 : lw n ≤ t.sz * 256 := by
        rcases (show n = 0 ∨ n = 1 by omega) with h | h
        · subst h; have : (65536 : Int) ≤ t.sz := h3; show (16777216 : Int) ≤ _; omega
        · subst h; have : (256 : Int) ≤ t.sz := h3; show (65536 : Int) ≤ _; omega
      have hs1 : step1 t = shiftS ⟨t.lo, t.sz * 256, t.he, t.fi, t.out, t.be⟩ := rfl
      have hl := shiftS_lo ⟨t.lo, t.sz * 256, t.he, t.fi, t.out, t.be⟩
      have hz := shiftS_sz ⟨t.lo, t.sz * 256, t.he, t.fi, t.out, t.be⟩
      have hh := shiftS_he ⟨t.lo, t.sz * 256, t.he, t.fi, t.out, t.be⟩ h5
      have hf := shiftS_fi ⟨t.lo, t.sz * 256, t.he, t.fi, t.out, t.be⟩ h6 h7
      have hk := shift_k ⟨t.lo, t.sz * 256, t.he, t.fi, t.out, t.be⟩ h5
      have hk3 : St.k ⟨t.lo, t.sz * 256, t.he, t.fi, t.out, t.be⟩ = t.k := rfl
      rw [← hs1] at hl hz hh hf hk
      simp only at hz
      obtain ⟨r1, r2, r3⟩ := ih (by omega) (step1 t) hl.1 (by omega) (by omega) (by omega) hh hf.1 hf.2
      exact ⟨r1, by omega, by omega⟩
    · rw [if_neg hc]
      exact ⟨⟨h1, h2, by omega, h4, h5, h6, h7⟩, Nat.le_refl _, by omega⟩
theorem put_ready {s : St} (ok : s.Ready) {lo ow al : Int} (may : May lo ow al) : (putS s lo ow al).Ready ∧ s.k ≤ (putS s lo ow al).k ∧ (putS s lo ow al).k ≤ s.k + 2 := by
  obtain ⟨p0, p1, p2, p3⟩ := may
  obtain ⟨l0, l1, s0, s1, h0, i0, i1⟩ := ok
  obtain ⟨each, hE⟩ : ∃ each, each = s.sz / al := ⟨_, rfl⟩
  have b3 := each_lo al s.sz (by omega) p3 s0
  have b1 := mul_bd each lo al s.sz hE (by omega) p0 (by omega) (by omega)
  have b2 := mul_bd each ow al s.sz hE (by omega) (by omega) (by omega) (by omega)
  have b6 := mul_bd each (lo + ow) al s.sz hE (by omega) (by omega) (by omega) (by omega)
  rw [Int.mul_add] at b6
  have b4 : each * 1 ≤ each * ow := Int.mul_le_mul_of_nonneg_left p1 (by omega)
  rw [Int.mul_one] at b4
  unfold putS
  rw [← hE] at b3 ⊢
  exact norm_ready 2 (by omega) ⟨s.lo + each * lo, each * ow, s.he, s.fi, s.out, s.be⟩ (by simp only; omega) (by simp only; omega) (by show (256 : Int) ≤ each * ow; omega) (by simp only; omega) h0 i0 i1
set_option maxHeartbeats 4000000 in
set_option maxRecDepth 100000 in
theorem Put_yes {w : World} {m : Nat} {s : St} {v : Value} (a : Is w m s v) (ok : s.Ready) (small : s.k ≤ 900000000) (lo ow al : Int) (may : May lo ow al) :
    Calls Try.prog 17 #[.pointer (some ⟨m, 0, none⟩), Mdl.part lo ow al] w fun e w' => ∃ v', e = .returned (.int .i64 0) ∧ Is w' m (putS s lo ow al) v' ∧ Step m v v' w w' := by
  obtain ⟨p0, p1, p2, p3⟩ := may
  obtain ⟨each, hE⟩ : ∃ each, each = s.sz / al := ⟨_, rfl⟩
  obtain ⟨q, hq⟩ : ∃ q, q = each * lo := ⟨_, rfl⟩
  obtain ⟨r, hr⟩ : ∃ r, r = each * ow := ⟨_, rfl⟩
  have hm := a.blk.lt
  have b1 := mul_bd each lo al s.sz hE (by omega) p0 (by omega) (by have := ok.sz0; omega)
  have b2 := mul_bd each ow al s.sz hE (by omega) (by omega) (by omega) (by have := ok.sz0; omega)
  have b3 := each_lo al s.sz (by omega) p3 ok.sz0
  have b6 := mul_bd each (lo + ow) al s.sz hE (by omega) (by omega) (by omega) (by have := ok.sz0; omega)
  rw [Int.mul_add] at b6
  have b4 : each * 1 ≤ each * ow := Int.mul_le_mul_of_nonneg_left p1 (by omega)
  rw [← hE] at b3
  rw [← hq] at b1 b6
  rw [← hr] at b2 b4 b6
  rw [Int.mul_one] at b4
  have hput : putS s lo ow al = norm 2 ⟨s.lo + q, r, s.he, s.fi, s.out, s.be⟩ := by unfold putS; rw [hq, hr, hE]
  have HPut := Lib.hid hput
  have e1 : Int.tdiv s.sz al = each := by rw [hE, Int.tdiv_eq_ediv_of_nonneg (by have := ok.sz0; omega)]
  have e1' : s.sz / al = each := hE.symm
  have e2 : each * lo = q := hq.symm
  have e3 : each * ow = r := hr.symm
  obtain ⟨l0, l1, s0, s1, h0, i0, i1⟩ := ok
  have A := Lib.hid a
  obtain ⟨slo, sz, he, fi, out, be⟩ := s
  have d0 := a.blk.cell (i := 0) rfl
  have d1 := a.blk.cell (i := 1) rfl
  have f0 := a.blk.free 0
  have f1 := a.blk.free 1
  simp only at *
  have z1 : al ≠ 0 := by omega
  have z2 : (al == 0) = false := by rw [beq_eq_false_iff_ne]; omega
  have z3 : (ow == 0) = false := by rw [beq_eq_false_iff_ne]; omega
  have b5 : each ≤ sz := by rw [hE]; exact Int.ediv_le_self _ (by omega)
  have e4 : IntKind.u32.wrap each = each := wraps_u32 _ (by omega) (by omega)
  have e5 : IntKind.u64.wrap q = q := wraps_u64 _ (by omega) (by omega)
  have e6 : IntKind.u64.wrap (slo + q) = slo + q := wraps_u64 _ (by omega) (by omega)
  have e7 : IntKind.u32.wrap r = r := wraps_u32 _ (by omega) (by omega)
  have e8 : r % 4294967296 = r := by omega
  have e9 : IntKind.u64.wrap each = each := wraps_u64 _ (by omega) (by omega)
  have e10 : IntKind.u64.wrap lo = lo := wraps_u64 _ (by omega) (by omega)
  have y1 : decide (8192 < al) = false := decide_eq_false (by omega)
  have y2 : decide (al ≤ lo) = false := decide_eq_false (by omega)
  have y3 : decide (al - lo < ow) = false := decide_eq_false (by omega)
  clear hE hq hr a hput
  unfold Mdl.part
  go_enter Try.func17, Try.ntmps17
  go_wp2
  go_quiet (fail)
  have hB : Below w.heap.size w ((w.alloc (.cells #[.int .u32 lo, .int .u32 ow, .int .u32 al] 31)).drewN nq) := pw_below_drewN ((Below.refl _ _).alloc (Nat.le_refl _) _) nq
  have A2 := Lib.hid (A.out.below hB)
  have P2 : Hid (Blk ((w.alloc (.cells #[.int .u32 lo, .int .u32 ow, .int .u32 al] 31)).drewN nq) w.heap.size 31 #[.int .u32 lo, .int .u32 ow, .int .u32 al]) := (Blk.new w _ _).drewN nq
  have S2 := Lib.hid ((Step.refl m v w).below hB)
  go_wp2
  clear d0 d1 f0 f1 A hB
  generalize ((w.alloc (.cells #[.int .u32 lo, .int .u32 ow, .int .u32 al] 31)).drewN nq) = w2 at *
  have d0 := A2.out.blk.cell (i := 0) rfl
  have d1 := A2.out.blk.cell (i := 1) rfl
  have f0 := A2.out.blk.free 0
  have f1 := A2.out.blk.free 1
  have c0 := P2.out.cell (i := 0) rfl
  have c1 := P2.out.cell (i := 1) rfl
  have c2 := P2.out.cell (i := 2) rfl
  go_still_tail 13, (by kernel_rfl)
  go_wp2
  have t1 : St.Ok ⟨slo + q, r, he, fi, out, be⟩ := ⟨by simp only; omega, by simp only; omega, by simp only; omega, by simp only; omega, h0, i0, i1, by simp only [St.k] at small ⊢; omega⟩
  have T1 := Lib.hid t1
  have A3 : Hid (Is ((w2.setCell ⟨m, 0, none⟩ (.int .u64 (slo + q))).setCell ⟨m, 1, none⟩ (.int .u32 r)).drew m ⟨slo + q, r, he, fi, out, be⟩ v) :=
    Lib.hid ⟨((A2.out.blk.set 0 (.int .u64 (slo + q))).set 1 (.int .u32 r)).drew, ((A2.out.sl.other (a := ⟨m, 0, none⟩) A2.out.ne (.int .u64 (slo + q))).other (a := ⟨m, 1, none⟩) A2.out.ne (.int .u32 r)).drew, A2.out.ne⟩
  have S3 := Lib.hid (((S2.out.set 0 (.int .u64 (slo + q))).set 1 (.int .u32 r)).drew)
  have hk1 : St.k ⟨slo + q, r, he, fi, out, be⟩ ≤ 900000000 := by simp only [St.k] at small ⊢; omega
  clear d0 d1 f0 f1 c0 c1 c2 A2 P2 S2 e1 e1' e2 e3 e4 e5 e6 e7 e8 e9 e10 t1
  go_loopg [] 2 (fun j wr => ∃ (t : St) (v' : Value), j ≤ 2 ∧ lw j ≤ t.sz ∧ Hid t.Ok ∧ Hid (norm j t = putS ⟨slo, sz, he, fi, out, be⟩ lo ow al) ∧ t.k + j ≤ 900000002 ∧ Hid (Is wr m t v') ∧ Hid (Step m v v' w wr))
  case atStart => exact ⟨_, v, Nat.le_refl _, by show (256 : Int) ≤ r; omega, T1, HPut.out.symm, by omega, A3, S3⟩
  case round =>
    clear T1 A3 S3 HPut hk1 small
    obtain ⟨t, v', hj2, hlw, T1, HN, hkk, A3, S3⟩ := hrel
    have d1 := A3.out.blk.cell (i := 1) rfl
    have f1 := A3.out.blk.free 1
    have ts1 := T1.out.sz1
    have ts0 := T1.out.sz0
    by_cases hc : t.sz < 16777216
    · have hg : 0 < gk := by
        rcases Nat.eq_zero_or_pos gk with h | h
        · subst h; have : (16777216 : Int) ≤ t.sz := hlw; omega
        · exact h
      obtain ⟨j, rfl⟩ : ∃ j, gk = j + 1 := ⟨gk - 1, by omega⟩
      have t2 : St.Ok ⟨t.lo, t.sz * 256, t.he, t.fi, t.out, t.be⟩ := ⟨T1.out.lo0, T1.out.lo1, by simp only; omega, by simp only; omega, T1.out.he0, T1.out.fi0, T1.out.fi1, by have := hkk; simp only [St.k] at this ⊢; omega⟩
      have A4 : Hid (Is (wr.setCell ⟨m, 1, none⟩ (.int .u32 (t.sz * 256))) m ⟨t.lo, t.sz * 256, t.he, t.fi, t.out, t.be⟩ v') :=
        Lib.hid ⟨A3.out.blk.set 1 (.int .u32 (t.sz * 256)), A3.out.sl.other (a := ⟨m, 1, none⟩) A3.out.ne _, A3.out.ne⟩
      have SH := Lib.hid (shift_calls A4.out t2)
      have hstep : norm (j + 1) t = norm j (step1 t) := by show (if t.sz < 16777216 then norm j (step1 t) else t) = _; rw [if_pos hc]
      have HSt := Lib.hid hstep
      have hlw2 : lw j ≤ t.sz * 256 := by
        rcases (show j = 0 ∨ j = 1 by omega) with h | h
        · subst h; have : (65536 : Int) ≤ t.sz := hlw; show (16777216 : Int) ≤ _; omega
        · subst h; have : (256 : Int) ≤ t.sz := hlw; show (65536 : Int) ≤ _; omega
      have T2 := Lib.hid t2
      clear hstep t2 hlw
      obtain ⟨tsz, htz⟩ : ∃ tsz, t.sz = tsz := ⟨_, rfl⟩
      have HTz := Lib.hid htz
      rw [htz] at d1 ts1 ts0 hc hlw2 A4 SH T2
      clear htz
      go_wp2_with (go_at_call 60; refine SH.out.mono ?_; rintro e w4 ⟨v4, rfl, a4, s4⟩; have A5 := Lib.hid a4; have S5 := Lib.hid s4; clear a4 s4)
      go_roundg j
      case measure => omega
      case rel =>
        have hs1 : step1 t = shiftS ⟨t.lo, tsz * 256, t.he, t.fi, t.out, t.be⟩ := by unfold step1; rw [HTz.out]
        rw [hs1] at HSt
        have hh := shiftS_he ⟨t.lo, tsz * 256, t.he, t.fi, t.out, t.be⟩ T2.out.he0
        have hf := shiftS_fi ⟨t.lo, tsz * 256, t.he, t.fi, t.out, t.be⟩ T2.out.fi0 T2.out.fi1
        have hl := shiftS_lo ⟨t.lo, tsz * 256, t.he, t.fi, t.out, t.be⟩
        have hz := shiftS_sz ⟨t.lo, tsz * 256, t.he, t.fi, t.out, t.be⟩
        have hkk2 := shift_k ⟨t.lo, tsz * 256, t.he, t.fi, t.out, t.be⟩ T2.out.he0
        have hk3 : St.k ⟨t.lo, tsz * 256, t.he, t.fi, t.out, t.be⟩ = t.k := rfl
        exact ⟨_, v4, by omega, by rw [hz]; exact hlw2, ⟨hl.1, by omega, by rw [hz]; exact T2.out.sz0, by rw [hz]; exact T2.out.sz1, hh, hf.1, hf.2, by omega⟩, HSt.out.symm.trans HN.out, by omega, A5, (S3.out.set 1 _).trans S5.out⟩
    · have hF : norm gk t = t := by
        cases gk with
        | zero => rfl
        | succ j => show (if t.sz < 16777216 then norm j (step1 t) else t) = _; rw [if_neg hc]
      have HF : Hid (putS ⟨slo, sz, he, fi, out, be⟩ lo ow al = t) := Lib.hid (HN.out.symm.trans hF)
      clear hF HN
      go_wp2
      go_ret
      rw [HF.out]
      exact ⟨rfl, v', A3.out, S3.out⟩
theorem Put_none (p : Value) (x y z : Value) (h : p = .agg #[x, y, z]) (w : World) :
    Calls Try.prog 17 #[.pointer none, p] w fun e w' => e = .returned (.int .i64 1) ∧ Below w.heap.size w w' := by
  subst h
  go_enter Try.func17, Try.ntmps17
  go_wp2
  go_ret
  exact ⟨rfl, ((Below.refl _ _).alloc (Nat.le_refl _) _ : Below _ _ _)⟩
theorem Put_bad (m : Nat) (lo ow al : Int) (h : ¬ May lo ow al) (l0 : 0 ≤ lo) (o0 : 0 ≤ ow) (a0 : 0 ≤ al) (a1 : al < 4294967296) (w : World) :
    Calls Try.prog 17 #[.pointer (some ⟨m, 0, none⟩), Mdl.part lo ow al] w fun e w' => e = .returned (.int .i64 1) ∧ Below w.heap.size w w' := by
  unfold May at h
  unfold Mdl.part
  have hb : Below w.heap.size w (w.alloc (.cells #[.int .u32 lo, .int .u32 ow, .int .u32 al] 31)) := (Below.refl _ _).alloc (Nat.le_refl _) _
  have HB := Lib.hid hb
  clear hb
  by_cases h1 : al = 0
  · have z : (al == 0) = true := by rw [beq_iff_eq]; exact h1
    clear h h1
    go_enter Try.func17, Try.ntmps17
    go_wp2
    go_ret
    exact ⟨rfl, HB.out⟩
  have z1 : (al == 0) = false := by rw [beq_eq_false_iff_ne]; exact h1
  by_cases h2 : 8192 < al
  · clear h h1
    go_enter Try.func17, Try.ntmps17
    go_wp2
    go_ret
    exact ⟨rfl, HB.out⟩
  by_cases h3 : ow = 0
  · have z : (ow == 0) = true := by rw [beq_iff_eq]; exact h3
    clear h h1 h3
    go_enter Try.func17, Try.ntmps17
    go_wp2
    go_ret
    exact ⟨rfl, HB.out⟩
  have z3 : (ow == 0) = false := by rw [beq_eq_false_iff_ne]; exact h3
  by_cases h4 : al ≤ lo
  · clear h h1 h3
    go_enter Try.func17, Try.ntmps17
    go_wp2
    go_ret
    exact ⟨rfl, HB.out⟩
  have h5 : al - lo < ow := by omega
  clear h h1 h3
  go_enter Try.func17, Try.ntmps17
  go_wp2
  go_ret
  exact ⟨rfl, HB.out⟩
end Go.Proofs.Ytlbjoflmfboeeaa.Enc

/-
  The walks of the program's encoder: Symbol, Bits, Len; no condition but those told.
-/
set_option linter.unusedVariables false
set_option linter.unusedSimpArgs false
namespace Go.Proofs.Ytlbjoflmfboeeaa.Enc
open Go.RowKit Go.Proofs.Ytlbjoflmfboeeaa Go.Proofs.YtlbjoflmfboeeaaW.PrintWords

/-- What a model's part is. -/
theorem may_of {L : List Int} (good : Mdl.Good L) (k : Nat) (hk : k < L.length) : May (Mdl.lsum (L.take k)) (L.getD k 0) (Mdl.lsum L) := by
  have h := good.at hk
  have e : L.getD k 0 = L[k] := by rw [List.getD_eq_getElem?_getD, List.getElem?_eq_getElem hk]; rfl
  rw [e]
  exact ⟨h.2.2, h.1, h.2.1, good.all⟩
/-- The encoder's state behind a model's symbol. -/
def symS (s : St) (L : List Int) (k : Nat) : St := putS s (Mdl.lsum (L.take k)) (L.getD k 0) (Mdl.lsum L)
set_option maxHeartbeats 2000000 in
set_option maxRecDepth 100000 in
theorem Symbol_yes {w : World} {e m h cap : Nat} {s : St} {v : Value} {L : List Int} {f : Bool} (a : Is w e s v) (ok : s.Ready) (small : s.k ≤ 900000000) (b : Mdl.Is w m h cap L f) (good : Mdl.Good L) (k : Nat) (hk : k < L.length)
    (n1 : e ≠ m) (n2 : e ≠ h) (n3 : v.ownBlock ≠ some m) (n4 : v.ownBlock ≠ some h) :
    Calls Try.prog 19 #[.pointer (some ⟨e, 0, none⟩), .pointer (some ⟨m, 0, none⟩), .int .i64 k] w fun en w' => ∃ v', en = .returned (.int .i64 0) ∧ Is w' e (symS s L k) v' ∧ Mdl.Is w' m h cap (Mdl.next f L k) f ∧
      Only (fun i => (i = e ∨ v.ownBlock = some i) ∨ (i = m ∨ i = h)) w w' ∧ (∀ g, v'.ownBlock = some g → v.ownBlock = some g ∨ w.heap.size ≤ g) := by
  have A := Lib.hid a
  have B := Lib.hid b
  have G := Lib.hid good
  have HK := Lib.hid hk
  have MY := Lib.hid (may_of good k hk)
  have RD := Lib.hid ok
  have N3 := Lib.hid n3
  have N4 := Lib.hid n4
  have lm := b.blk.lt
  have lh := b.row.lt
  have le := a.blk.lt
  have HSy : Hid (symS s L k = putS s (Mdl.lsum (L.take k)) (L.getD k 0) (Mdl.lsum L)) := Lib.hid rfl
  have P1 := Lib.hid (Mdl.Part_some b good k hk)
  clear a b good ok hk n3 n4
  generalize Mdl.lsum (L.take k) = lo at *
  generalize L.getD k 0 = ow at *
  generalize Mdl.lsum L = al at *
  unfold Mdl.part at P1
  go_enter Try.func19, Try.ntmps19
  go_wp2_with (first
    | (go_at_call 61; refine P1.out.mono ?_; rintro e1 w1 ⟨rfl, hb1⟩; have hs1 := hb1.size; have HB1 := Lib.hid hb1; clear hb1)
    | (go_at_call 17
       have hb2 : Below w.heap.size w (w1.alloc (.cells #[.int .u32 lo, .int .u32 ow, .int .u32 al] 31)) := HB1.out.alloc hs1 _
       refine (Put_yes (A.out.below hb2) RD.out small lo ow al MY.out).mono ?_
       rintro e2 w2 ⟨v2, rfl, a2, s2⟩
       have A2 := Lib.hid a2
       have S2 := Lib.hid s2
       have O2 : Hid (Only (fun i => (i = e ∨ v.ownBlock = some i) ∨ (i = m ∨ i = h)) w w2) := Lib.hid ((Only.of_below hb2 : Only (fun i => (i = e ∨ v.ownBlock = some i) ∨ (i = m ∨ i = h)) _ _).then s2.only (fun i hi => .inl (.inl hi)))
       have W2 : Hid (∀ g, v2.ownBlock = some g → v.ownBlock = some g ∨ w.heap.size ≤ g) := Lib.hid (fun g hg => (s2.own g hg).imp id (fun hh => Nat.le_trans hb2.size hh))
       have B2 : Hid (Mdl.Is w2 m h cap L f) := Lib.hid ((B.out.only (Only.of_below hb2 : Only (fun _ => False) _ _) (fun x => x) (fun x => x)).only s2.only (fun hh => by rcases hh with hh | hh; exact n1 hh.symm; exact N3.out hh) (fun hh => by rcases hh with hh | hh; exact n2 hh.symm; exact N4.out hh))
       have L2 := s2.only.size
       clear a2 s2 hb2)
    | (go_at_call 62
       refine (Mdl.Learn_any B2.out G.out k HK.out).mono ?_
       rintro e3 w3 ⟨rfl, b3, o3⟩
       have B3 := Lib.hid b3
       have A3 : Hid (Is w3 e (putS s lo ow al) v2) := Lib.hid (A2.out.only o3 (fun hh => by rcases hh with hh | hh; exact n1 hh; exact n2 hh) (fun g hg hh => by
         rcases W2.out g hg with h1 | h1
         · rcases hh with hh | hh
           · subst hh; exact N3.out h1
           · subst hh; exact N4.out h1
         · rcases hh with hh | hh
           · omega
           · omega))
       have O3 : Hid (Only (fun i => (i = e ∨ v.ownBlock = some i) ∨ (i = m ∨ i = h)) w w3) := Lib.hid (O2.out.then o3 (fun i hi => .inl (.inr hi)))
       clear b3 o3))
  go_ret
  rw [HSy.out]
  exact ⟨v2, rfl, A3.out, B3.out, O3.out, W2.out⟩
theorem Symbol_bad {w : World} {e m h cap : Nat} {L : List Int} {f : Bool} (b : Mdl.Is w m h cap L f) (k : Int) (hk : k < 0 ∨ (L.length : Int) ≤ k) :
    Calls Try.prog 19 #[.pointer (some ⟨e, 0, none⟩), .pointer (some ⟨m, 0, none⟩), .int .i64 k] w fun en w' => en = .returned (.int .i64 1) ∧ Below w.heap.size w w' := by
  have P1 := Lib.hid (Mdl.Part_bad b k hk)
  clear b hk
  unfold Mdl.part at P1
  go_enter Try.func19, Try.ntmps19
  go_wp2_with (first
    | (go_at_call 61; refine P1.out.mono ?_; rintro e1 w1 ⟨rfl, hb1⟩; have hs1 := hb1.size; have HB1 := Lib.hid hb1; clear hb1))
  go_ret
  exact ⟨rfl, HB1.out.alloc hs1 _⟩
theorem Symbol_nomodel (e : Nat) (k : Value) (w : World) :
    Calls Try.prog 19 #[.pointer (some ⟨e, 0, none⟩), .pointer none, k] w fun en w' => en = .returned (.int .i64 1) ∧ Below w.heap.size w w' := by
  have P1 := Lib.hid (Mdl.Part_none k w)
  unfold Mdl.part at P1
  go_enter Try.func19, Try.ntmps19
  go_wp2_with (first
    | (go_at_call 61; refine P1.out.mono ?_; rintro e1 w1 ⟨rfl, hb1⟩; have hs1 := hb1.size; have HB1 := Lib.hid hb1; clear hb1))
  go_ret
  exact ⟨rfl, HB1.out.alloc hs1 _⟩
theorem Symbol_none {w : World} {m h cap : Nat} {L : List Int} {f : Bool} (b : Mdl.Is w m h cap L f) (good : Mdl.Good L) (k : Int) :
    Calls Try.prog 19 #[.pointer none, .pointer (some ⟨m, 0, none⟩), .int .i64 k] w fun en w' => en = .returned (.int .i64 1) ∧ Below w.heap.size w w' := by
  have P1 : Hid (Calls Try.prog 61 #[.pointer (some ⟨m, 0, none⟩), .int .i64 k] w fun en w' => ∃ x y z q : Int, en = .returned (.tuple #[.agg #[.int .u32 x, .int .u32 y, .int .u32 z], .int .i64 q]) ∧ Below w.heap.size w w') := by
    apply Lib.hid
    by_cases hk : k < 0 ∨ (L.length : Int) ≤ k
    · refine (Mdl.Part_bad b k hk).mono ?_
      rintro en w' ⟨rfl, hb⟩
      exact ⟨0, 0, 0, 1, rfl, hb⟩
    · obtain ⟨n, rfl⟩ := Int.eq_ofNat_of_zero_le (show 0 ≤ k by omega)
      refine (Mdl.Part_some b good n (by omega)).mono ?_
      rintro en w' ⟨rfl, hb⟩
      exact ⟨_, _, _, 0, rfl, hb⟩
  clear b good
  go_enter Try.func19, Try.ntmps19
  go_wp2_with (first
    | (go_at_call 61; refine P1.out.mono ?_; rintro e1 w1 ⟨x, y, z, q, rfl, hb1⟩; have hs1 := hb1.size; have HB1 := Lib.hid hb1; clear hb1))
  go_ret
  exact ⟨rfl, HB1.out.alloc hs1 _⟩
/-- The encoder's state behind a number's bits. -/
def bitsS (s : St) (n : Int) (w : Nat) : St :=
  if w = 0 then s else if w ≤ 12 then putS s (n % 2 ^ w) 1 (2 ^ w) else putS (putS s (n / 2 ^ (w - 12) % 4096) 1 4096) (n % 2 ^ (w - 12)) 1 (2 ^ (w - 12))
theorem bits_step (t : St) (n : Int) (j i : Nat) (hi : j = i + 12) (h0 : 0 < i) (h12 : i ≤ 12) : bitsS t n j = bitsS (putS t (n / 2 ^ i % 4096) 1 4096) n i := by
  unfold bitsS
  rw [if_neg (by omega), if_neg (by omega), if_neg (by omega), if_pos (by omega), show j - 12 = i from by omega]
theorem bits_last (t : St) (n : Int) (j : Nat) (h0 : 0 < j) (h12 : j ≤ 12) : bitsS t n j = putS t (n % 2 ^ j) 1 (2 ^ j) := by
  unfold bitsS
  rw [if_neg (by omega), if_pos h12]
theorem bits_nought (t : St) (n : Int) : bitsS t n 0 = t := by unfold bitsS; rw [if_pos rfl]
attribute [local irreducible] bitsS putS symS norm shiftS
theorem Is.drew {w : World} {m : Nat} {s : St} {v : Value} (a : Is w m s v) : Is w.drew m s v := ⟨a.blk.drew, a.sl.drew, a.ne⟩
set_option maxHeartbeats 2000000 in
set_option maxRecDepth 100000 in
theorem Bits_yes {w : World} {e : Nat} {s : St} {v : Value} (a : Is w e s v) (ok : s.Ready) (small : s.k ≤ 800000000) (n : Int) (wide : Nat) (h0 : 0 ≤ n) (h1 : n < 2 ^ wide) (h2 : wide ≤ 24) :
    Calls Try.prog 18 #[.pointer (some ⟨e, 0, none⟩), .int .u32 n, .int .i64 wide] w fun en w' => ∃ v', en = .returned (.int .i64 0) ∧ Is w' e (bitsS s n wide) v' ∧ Step e v v' w w' := by
  have nm : min wide 32 = wide := by omega
  have z0 : n / 2 ^ wide = 0 := Int.ediv_eq_zero_of_lt h0 h1
  have z1 : (n / 2 ^ wide == 0) = true := by rw [z0]; rfl
  have z2 : (n / 2 ^ wide != 0) = false := by rw [z0]; rfl
  have y1 : decide ((wide : Int) < 0) = false := decide_eq_false (by omega)
  have y2 : decide ((24 : Int) < (wide : Int)) = false := decide_eq_false (by omega)
  have A := Lib.hid a
  have R0 := Lib.hid ok
  clear a ok
  go_enter Try.func18, Try.ntmps18
  go_wp2
  clear z0 z1 z2 y1 y2 nm
  go_loopw [2] (fun u wr => ∃ (j : Nat) (t : St) (v' : Value), j ≤ 24 ∧ u = .int .i64 (j : Int) ∧ Hid (bitsS t n j = bitsS s n wide) ∧ Hid t.Ready ∧ t.k + 2 * j ≤ 800000048 ∧ Hid (Is wr e t v') ∧ Hid (Step e v v' w wr)) (fun u _ => (intOf u).toNat)
  case atStart => exact ⟨wide, s, v, h2, rfl, rfl, R0, by omega, A, Step.refl e v w⟩
  case round =>
    clear A R0
    obtain ⟨j, t, v', hj, rfl, HN, R0, hkk, A, S0⟩ := hrel
    have hm := A.out.blk.lt
    have u1 : (1 : Int) % 4294967296 = 1 := by decide
    by_cases hc : 12 < j
    · obtain ⟨i, hi⟩ : ∃ i : Nat, j = i + 12 := ⟨j - 12, by omega⟩
      have hji : (j : Int) - 12 = (i : Int) := by omega
      have nm : min i 32 = i := by omega
      have k1 : ¬ ((i : Int) < 0) := by omega
      have k2 : decide ((i : Int) < 0) = false := decide_eq_false k1
      have w1 : IntKind.u32.wrap 4096 = 4096 := by decide
      have w2 : IntKind.u32.wrap 4095 = 4095 := by decide
      have hp : (1 : Int) ≤ 2 ^ i := by have : (0 : Int) < 2 ^ i := Int.pow_pos (by omega); omega
      have hn32 : n < 4294967296 := by
        have : (2 : Int) ^ wide ≤ 2 ^ 24 := by
          have := Nat.pow_le_pow_right (show 0 < 2 by decide) h2
          exact_mod_cast this
        have e24 : (2 : Int) ^ 24 = 16777216 := by decide
        omega
      have hx0 : 0 ≤ n / 2 ^ i := Int.ediv_nonneg h0 (by omega)
      have hx1 : n / 2 ^ i ≤ n := Int.ediv_le_self _ h0
      have em : bits .and .u32 (n / 2 ^ i) 4095 = n / 2 ^ i % 4096 := bits_mask .u32 32 (by decide) wraps_u32 12 (by decide) _ hx0 (by show n / 2 ^ i < 4294967296; omega)
      have MY : Hid (May (n / 2 ^ i % 4096) 1 4096) := Lib.hid ⟨by omega, by omega, by omega, by omega⟩
      have HP := Lib.hid (put_ready R0.out MY.out)
      have HSt := Lib.hid (bits_step t n j i hi (by omega) (by omega))
      clear hi hx0 hx1 hp hn32
      go_wp2
      go_still_tail 11, (by kernel_rfl)
      go_wp2_with (first
        | (go_at_call 17
           refine (Put_yes A.out.drew R0.out (by omega) _ _ _ MY.out).mono ?_
           rintro e4 w4 ⟨v4, rfl, a4, s4⟩
           have A4 := Lib.hid a4
           have S4 := Lib.hid s4
           clear a4 s4))
      go_roundw
      case rel => exact ⟨i, putS t (n / 2 ^ i % 4096) 1 4096, v4, by omega, rfl, HSt.out.symm.trans HN.out, HP.out.1, by have := HP.out.2.2; omega, A4, S0.out.drew.trans S4.out⟩
      case measure => simp [intOf]; omega
    · by_cases hz : 0 < j
      · have m1 : min (j : Int) 12 = (j : Int) := by omega
        have m2 : mn (j : Int) 12 = (j : Int) := by unfold mn; omega
        have hp : (1 : Int) ≤ 2 ^ j ∧ (2 : Int) ^ j ≤ 4096 := by
          have h3 : (0 : Int) < 2 ^ j := Int.pow_pos (by omega)
          have h4 := Nat.pow_le_pow_right (show 0 < 2 by decide) (show j ≤ 12 by omega)
          have h5 : (2 : Int) ^ j ≤ 2 ^ 12 := by exact_mod_cast h4
          have e12 : (2 : Int) ^ 12 = 4096 := by decide
          omega
        have hn32 : n < 4294967296 := by
          have h4 := Nat.pow_le_pow_right (show 0 < 2 by decide) h2
          have h5 : (2 : Int) ^ wide ≤ 2 ^ 24 := by exact_mod_cast h4
          have e24 : (2 : Int) ^ 24 = 16777216 := by decide
          omega
        have w1 : IntKind.u32.wrap (2 ^ j) = 2 ^ j := wraps_u32 _ (by omega) (by omega)
        have w2 : IntKind.u32.wrap (2 ^ j - 1) = 2 ^ j - 1 := wraps_u32 _ (by omega) (by omega)
        have em : bits .and .u32 n (2 ^ j - 1) = n % 2 ^ j := bits_mask .u32 32 (by decide) wraps_u32 j (by show j ≤ 32; omega) _ h0 (by show n < 4294967296; omega)
        have hq0 := Int.emod_nonneg n (show (2 : Int) ^ j ≠ 0 by omega)
        have hq1 := Int.emod_lt_of_pos n (show (0 : Int) < 2 ^ j by omega)
        have MY : Hid (May (n % 2 ^ j) 1 (2 ^ j)) := Lib.hid ⟨hq0, by omega, by omega, by omega⟩
        have HP := Lib.hid (put_ready R0.out MY.out)
        have HSt := Lib.hid (bits_last t n j hz (by omega))
        have k4 : ¬ ((j : Int) < 0) := by omega
        have k5 : decide ((j : Int) < 0) = false := decide_eq_false k4
        clear hq0 hq1 hp hn32
        go_wp2
        go_still_tail 11, (by kernel_rfl)
        go_wp2_with (first
          | (go_at_call 17
             refine (Put_yes A.out.drew R0.out (by omega) _ _ _ MY.out).mono ?_
             rintro e4 w4 ⟨v4, rfl, a4, s4⟩
             have A4 := Lib.hid a4
             have S4 := Lib.hid s4
             clear a4 s4))
        go_roundw
        case rel => exact ⟨0, putS t (n % 2 ^ j) 1 (2 ^ j), v4, by omega, rfl, (bits_nought _ _).trans (HSt.out.symm.trans HN.out), HP.out.1, by have := HP.out.2.2; omega, A4, S0.out.drew.trans S4.out⟩
        case measure => simp [intOf]; omega
      · obtain rfl : j = 0 := by omega
        rw [bits_nought] at HN
        have HN2 := HN.out.symm
        have HF := Lib.hid HN2
        clear HN HN2
        go_wp2
        go_ret
        rw [HF.out]
        exact ⟨v', rfl, A.out, S0.out⟩
theorem Bits_none (n wide : Value) (w : World) : Calls Try.prog 18 #[.pointer none, n, wide] w fun en w' => en = .returned (.int .i64 1) ∧ w' = w := by
  go_enter Try.func18, Try.ntmps18
  go_wp2
  go_ret
  exact ⟨rfl, rfl⟩
theorem Bits_bad (e : Nat) (n : Int) (wide : Int) (h0 : 0 ≤ n) (hb : wide < 0 ∨ 24 < wide ∨ (2 : Int) ^ wide.toNat ≤ n) (w : World) :
    Calls Try.prog 18 #[.pointer (some ⟨e, 0, none⟩), .int .u32 n, .int .i64 wide] w fun en w' => en = .returned (.int .i64 1) ∧ w' = w := by
  by_cases h1 : wide < 0
  · clear hb
    go_enter Try.func18, Try.ntmps18
    go_wp2
    go_ret
    exact ⟨rfl, rfl⟩
  by_cases h2 : 24 < wide
  · clear hb
    go_enter Try.func18, Try.ntmps18
    go_wp2
    go_ret
    exact ⟨rfl, rfl⟩
  obtain ⟨k, rfl⟩ := Int.eq_ofNat_of_zero_le (show 0 ≤ wide by omega)
  have h3 : (2 : Int) ^ k ≤ n := by
    rcases hb with h | h | h
    · omega
    · omega
    · simpa using h
  have nm : min k 32 = k := by omega
  have hp : (0 : Int) < 2 ^ k := Int.pow_pos (by omega)
  have z0 : ¬ (n / 2 ^ k = 0) := by
    have : 1 ≤ n / 2 ^ k := (Int.le_ediv_iff_mul_le hp).2 (by omega)
    omega
  have z1 : (n / 2 ^ k == 0) = false := by rw [beq_eq_false_iff_ne]; exact z0
  have z2 : (n / 2 ^ k != 0) = true := by rw [bne_iff_ne]; exact z0
  clear hb h3 hp
  go_enter Try.func18, Try.ntmps18
  go_wp2
  go_ret
  exact ⟨rfl, rfl⟩
end Go.Proofs.Ytlbjoflmfboeeaa.Enc

/-
  The two decoders as one state, and the walks of the program's next, at, take, New; no condition but those told.
-/
set_option linter.unusedVariables false
set_option linter.unusedSimpArgs false
namespace Go.Proofs.Ytlbjoflmfboeeaa.Deco
open Go.RowKit Go.Proofs.Ytlbjoflmfboeeaa Go.Proofs.YtlbjoflmfboeeaaW.PrintWords

structure DSt where
  bs : List Int
  n : Nat
  co : Int
  sz : Int
/-- The byte that is taken next. -/
def bt (s : DSt) : Int := s.bs.getD s.n 0
def nextS (s : DSt) : DSt := ⟨s.bs, s.n + 1, s.co * 256 + bt s, s.sz⟩
def dnorm : Nat → DSt → DSt
  | 0, s => s
  | k + 1, s => if s.sz < 16777216 then dnorm k (nextS ⟨s.bs, s.n, s.co, s.sz * 256⟩) else s
def takeS (s : DSt) (lo ow al : Int) : DSt := dnorm 2 ⟨s.bs, s.n, min (s.co - s.sz / al * lo) (s.sz / al * ow - 1), s.sz / al * ow⟩
def atS (s : DSt) (al : Int) : Int := min (s.co / (s.sz / al)) (al - 1)
def openS (bs : List Int) : DSt := nextS (nextS (nextS (nextS ⟨bs, 0, 0, 4294967295⟩)))
def Byt (bs : List Int) : Prop := (∀ x ∈ bs, 0 ≤ x ∧ x ≤ 255) ∧ bs.length ≤ 1000000000
theorem bt_bd {s : DSt} (h : Byt s.bs) : 0 ≤ bt s ∧ bt s ≤ 255 := by
  unfold bt
  rw [List.getD_eq_getElem?_getD]
  by_cases hn : s.n < s.bs.length
  · rw [List.getElem?_eq_getElem hn]; exact h.1 _ (List.getElem_mem hn)
  · rw [List.getElem?_eq_none (by omega)]; decide
structure DSt.Ready (s : DSt) : Prop where
  by_ : Byt s.bs
  c0 : 0 ≤ s.co
  c1 : s.co ≤ s.sz
  s0 : 16777216 ≤ s.sz
  s1 : s.sz < 4294967296
/-- A decoder in memory: its struct's type and the kind of its numbers. -/
structure Is (w : World) (d : Nat) (t : TypeId) (k : IntKind) (s : DSt) (v : Value) : Prop where
  blk : Blk w d t #[v, .int .i64 s.n, .int k s.co, .int k s.sz]
  sl : Sl w 5 .u8 v s.bs
  ne : v.ownBlock ≠ some d
section
variable {w w' : World} {d : Nat} {t : TypeId} {k : IntKind} {s : DSt} {v : Value}
theorem Is.only {S : Nat → Prop} (a : Is w d t k s v) (o : Only S w w') (h1 : ¬ S d) (h2 : ∀ g, v.ownBlock = some g → ¬ S g) : Is w' d t k s v :=
  ⟨a.blk.of_same (o.block d a.blk.lt h1), a.sl.only o h2, a.ne⟩
theorem Is.below (a : Is w d t k s v) (b : Below w.heap.size w w') : Is w' d t k s v := a.only (Only.of_below b : Only (fun _ => False) _ _) (fun h => h) (fun _ _ h => h)
theorem Is.drew (a : Is w d t k s v) : Is w.drew d t k s v := ⟨a.blk.drew, a.sl.drew, a.ne⟩
theorem Is.drewN (a : Is w d t k s v) (n : Nat) : Is (w.drewN n) d t k s v := ⟨a.blk.drewN n, a.sl.drewN n, a.ne⟩
theorem Is.inc (a : Is w d t k s v) : Is (w.setCell ⟨d, 1, none⟩ (.int .i64 ((s.n : Int) + 1))) d t k ⟨s.bs, s.n + 1, s.co, s.sz⟩ v :=
  ⟨by have := a.blk.set 1 (.int .i64 ((s.n : Int) + 1)); simpa using this, a.sl.other (a := ⟨d, 1, none⟩) a.ne _, a.ne⟩
theorem Is.co_ (a : Is w d t k s v) (c : Int) : Is (w.setCell ⟨d, 2, none⟩ (.int k c)) d t k ⟨s.bs, s.n, c, s.sz⟩ v :=
  ⟨a.blk.set 2 (.int k c), a.sl.other (a := ⟨d, 2, none⟩) a.ne _, a.ne⟩
theorem Is.sz_ (a : Is w d t k s v) (z : Int) : Is (w.setCell ⟨d, 3, none⟩ (.int k z)) d t k ⟨s.bs, s.n, s.co, z⟩ v :=
  ⟨a.blk.set 3 (.int k z), a.sl.other (a := ⟨d, 3, none⟩) a.ne _, a.ne⟩
end
/-- Only this block turned. -/
abbrev At (d : Nat) : World → World → Prop := Only (fun i => i = d)
theorem At.refl (d : Nat) (w : World) : At d w w := Only.refl _ w
theorem At.cell {d : Nat} {w w' : World} (h : At d w w') (i : Nat) (u : Value) : At d w (w'.setCell ⟨d, i, none⟩ u) := Only.set h (p := ⟨d, i, none⟩) (.inl rfl) u
attribute [local irreducible] bt
set_option maxHeartbeats 2000000 in
set_option maxRecDepth 100000 in
theorem next_calls {w : World} {d : Nat} {s : DSt} {v : Value} (a : Is w d 120 .u32 s v) (hb : Byt s.bs) (c0 : 0 ≤ s.co) (c1 : s.co < 16777216) (hn : s.n ≤ 1000000000000) :
    Calls Try.prog 67 #[.pointer (some ⟨d, 0, none⟩)] w fun e w' => e = .returned (.tuple #[]) ∧ Is w' d 120 .u32 (nextS s) v ∧ At d w w' := by
  have hbt := bt_bd hb
  have HBt : Hid (bt s = s.bs.getD s.n 0) := Lib.hid (by unfold bt; rfl)
  have A := Lib.hid a
  obtain ⟨bs, n, co, sz⟩ := s
  simp only at *
  have d2 := a.blk.cell (i := 2) rfl
  have f2 := a.blk.free 2
  have hl := hb.2
  have HNx : Hid (nextS ⟨bs, n, co, sz⟩ = ⟨bs, n + 1, co * 256 + bt ⟨bs, n, co, sz⟩, sz⟩) := Lib.hid rfl
  generalize bt ⟨bs, n, co, sz⟩ = x at *
  clear a hb
  have e1 : IntKind.u32.wrap (co * 256) = co * 256 := Enc.wraps_u32 _ (by omega) (by omega)
  go_enter Try.func67, Try.ntmps67
  go_wp2
  have A2 := Lib.hid (A.out.co_ (co * 256))
  have O2 := Lib.hid ((At.refl d w).cell 2 (.int .u32 (co * 256)))
  clear d2 f2 A
  generalize w.setCell ⟨d, 2, none⟩ (.int .u32 (co * 256)) = w2 at *
  have d0 := A2.out.blk.cell (i := 0) rfl
  have d1 := A2.out.blk.cell (i := 1) rfl
  have d2 := A2.out.blk.cell (i := 2) rfl
  have f1 := A2.out.blk.free 1
  have f2 := A2.out.blk.free 2
  by_cases hc : n < bs.length
  · obtain ⟨g, cap, rfl, hr⟩ : ∃ g cap, v = .slice (some ⟨g, 0, none⟩) bs.length cap ∧ RowI w2 5 .u8 g cap bs := by
      rcases A2.out.sl with ⟨_, h⟩ | h
      · simp only at h; subst h; simp at hc
      · exact h
    have d3 := hr.cell hc
    have hx : bs[n] = x := by rw [HBt.out, List.getD_eq_getElem?_getD, List.getElem?_eq_getElem hc]; rfl
    rw [hx] at d3
    have e2 : bits .or .u32 (co * 256) x = co * 256 + x := bits_join .u32 32 (by decide) Enc.wraps_u32 8 _ _ (by omega) (by omega) (by omega) (by omega) (by omega) (by omega)
    have e3 : IntKind.u32.wrap x = x := Enc.wraps_u32 _ (by omega) (by omega)
    have HC := Lib.hid hc
    have i1 : (n : Int) < bs.length := by omega
    clear hr hx HBt
    go_quiet (fail)
    have A3 := Lib.hid (A2.out.drewN nq)
    have O3 := Lib.hid (O2.out.drewN nq)
    clear d0 d1 d2 f1 f2 A2 O2
    have d3 : (w2.drewN nq).cell? ⟨g, n, none⟩ = some (.int .u8 x) := d3
    generalize w2.drewN nq = w3 at *
    have d0 := A3.out.blk.cell (i := 0) rfl
    have d1 := A3.out.blk.cell (i := 1) rfl
    have d2 := A3.out.blk.cell (i := 2) rfl
    have f1 := A3.out.blk.free 1
    have f2 := A3.out.blk.free 2
    go_wp2
    go_still_tail 18, (by kernel_rfl)
    go_wp2
    rw [HNx.out]
    exact bodyPost_end (results_none rfl _ _ _) rfl ⟨rfl, (A3.out.co_ _).inc.drew, ((At.cell O3.out 2 _).cell 1 _).drew⟩
  · have hx : x = 0 := by rw [HBt.out, List.getD_eq_getElem?_getD, List.getElem?_eq_none (by omega)]; rfl
    have HC := Lib.hid hc
    subst hx
    rw [Int.add_zero] at HNx
    obtain ⟨ad, cap, rfl, _⟩ := A2.out.sl.form
    have i1 : ¬ (n : Int) < bs.length := by omega
    clear HBt
    go_quiet (fail)
    have A3 := Lib.hid (A2.out.drewN nq)
    have O3 := Lib.hid (O2.out.drewN nq)
    clear d0 d1 d2 f1 f2 A2 O2
    generalize w2.drewN nq = w3 at *
    have d1 := A3.out.blk.cell (i := 1) rfl
    have f1 := A3.out.blk.free 1
    go_wp2
    rw [HNx.out]
    exact bodyPost_end (results_none rfl _ _ _) rfl ⟨rfl, A3.out.inc, At.cell O3.out 1 _⟩
theorem at_calls {w : World} {d : Nat} {s : DSt} {v : Value} (a : Is w d 120 .u32 s v) (ok : s.Ready) (al : Int) (a0 : 1 ≤ al) (a1 : al ≤ 8192) :
    Calls Try.prog 70 #[.pointer (some ⟨d, 0, none⟩), .int .u32 al] w fun e w' => e = .returned (.int .u32 (atS s al)) ∧ ∃ n, w' = w.drewN n := by
  have d2 := a.blk.cell (i := 2) rfl
  have d3 := a.blk.cell (i := 3) rfl
  obtain ⟨each, hE⟩ : ∃ each, each = s.sz / al := ⟨_, rfl⟩
  have b3 := Enc.each_lo al s.sz a0 a1 ok.s0
  rw [← hE] at b3
  have HA : Hid (atS s al = min (s.co / each) (al - 1)) := Lib.hid (by unfold atS; rw [hE])
  have e1 : Int.tdiv s.sz al = each := by rw [hE, Int.tdiv_eq_ediv_of_nonneg (by have := ok.s0; omega)]
  have b5 : each ≤ s.sz := by rw [hE]; exact Int.ediv_le_self _ (by have := ok.s0; omega)
  obtain ⟨hb, c0, c1, s0, s1⟩ := ok
  obtain ⟨q, hq⟩ : ∃ q, q = s.co / each := ⟨_, rfl⟩
  have e2 : Int.tdiv s.co each = q := by rw [hq, Int.tdiv_eq_ediv_of_nonneg c0]
  have q0 : 0 ≤ q := by rw [hq]; exact Int.ediv_nonneg c0 (by omega)
  have q1 : q ≤ s.co := by rw [hq]; exact Int.ediv_le_self _ c0
  have e1' : s.sz / al = each := hE.symm
  have e2' : s.co / each = q := hq.symm
  rw [← hq] at HA
  have z1 : al ≠ 0 := by omega
  have z2 : (al == 0) = false := by rw [beq_eq_false_iff_ne]; omega
  have z3 : each ≠ 0 := by omega
  have z4 : (each == 0) = false := by rw [beq_eq_false_iff_ne]; omega
  have w1 : IntKind.u32.wrap each = each := Enc.wraps_u32 _ (by omega) (by omega)
  have w2 : IntKind.u32.wrap q = q := Enc.wraps_u32 _ (by omega) (by omega)
  have w3 : IntKind.u32.wrap (al - 1) = al - 1 := Enc.wraps_u32 _ (by omega) (by omega)
  clear hE hq a hb
  obtain ⟨bs, n, co, sz⟩ := s
  simp only at *
  go_enter Try.func70, Try.ntmps70
  go_wp2
  go_quiet (fail)
  by_cases h : al - 1 < q
  · have hm : min q (al - 1) = al - 1 := by omega
    rw [hm] at HA
    go_wp2
    go_ret
    rw [HA.out]
    exact ⟨rfl, nq, rfl⟩
  · have hm : min q (al - 1) = q := by omega
    rw [hm] at HA
    go_wp2
    go_ret
    rw [HA.out]
    exact ⟨rfl, nq, rfl⟩
set_option maxHeartbeats 4000000 in
set_option maxRecDepth 100000 in
theorem take_calls {w : World} {d : Nat} {s : DSt} {v : Value} (a : Is w d 120 .u32 s v) (ok : s.Ready) (lo ow al : Int) (may : Enc.May lo ow al) (le : s.sz / al * lo ≤ s.co) (hn : s.n ≤ 900000000000) :
    Calls Try.prog 71 #[.pointer (some ⟨d, 0, none⟩), Mdl.part lo ow al] w fun e w' => e = .returned (.tuple #[]) ∧ Is w' d 120 .u32 (takeS s lo ow al) v ∧ At d w w' := by
  obtain ⟨p0, p1, p2, p3⟩ := may
  have hd := a.blk.lt
  obtain ⟨each, hE⟩ : ∃ each, each = s.sz / al := ⟨_, rfl⟩
  obtain ⟨q, hq⟩ : ∃ q, q = each * lo := ⟨_, rfl⟩
  obtain ⟨r, hr⟩ : ∃ r, r = each * ow := ⟨_, rfl⟩
  have b1 := Enc.mul_bd each lo al s.sz hE (by omega) p0 (by omega) (by have := ok.s0; omega)
  have b2 := Enc.mul_bd each ow al s.sz hE (by omega) (by omega) (by omega) (by have := ok.s0; omega)
  have b3 := Enc.each_lo al s.sz (by omega) p3 ok.s0
  have b4 : each * 1 ≤ each * ow := Int.mul_le_mul_of_nonneg_left p1 (by omega)
  have b5 : each ≤ s.sz := by rw [hE]; exact Int.ediv_le_self _ (by have := ok.s0; omega)
  have HT : Hid (takeS s lo ow al = dnorm 2 ⟨s.bs, s.n, min (s.co - q) (r - 1), r⟩) := Lib.hid (by unfold takeS; rw [hq, hr, hE])
  have e1 : Int.tdiv s.sz al = each := by rw [hE, Int.tdiv_eq_ediv_of_nonneg (by have := ok.s0; omega)]
  have e1' : s.sz / al = each := hE.symm
  rw [← hE, ← hq] at le
  rw [← hE] at b3
  rw [← hq] at b1
  rw [← hr] at b2 b4
  rw [Int.mul_one] at b4
  have e2 : each * lo = q := hq.symm
  have e3 : each * ow = r := hr.symm
  have BY := Lib.hid ok.by_
  have A := Lib.hid a
  have d3 := a.blk.cell (i := 3) rfl
  obtain ⟨_, c0, c1, s0, s1⟩ := ok
  obtain ⟨bs, n, co, sz⟩ := s
  simp only at *
  have z1 : al ≠ 0 := by omega
  have z2 : (al == 0) = false := by rw [beq_eq_false_iff_ne]; omega
  have w1 : IntKind.u32.wrap each = each := Enc.wraps_u32 _ (by omega) (by omega)
  have w2 : IntKind.u32.wrap q = q := Enc.wraps_u32 _ (by omega) (by omega)
  have w3 : IntKind.u32.wrap r = r := Enc.wraps_u32 _ (by omega) (by omega)
  have w4 : IntKind.u32.wrap (co - q) = co - q := Enc.wraps_u32 _ (by omega) (by omega)
  have w5 : IntKind.u32.wrap (r - 1) = r - 1 := Enc.wraps_u32 _ (by omega) (by omega)
  clear hE hq hr a
  unfold Mdl.part
  go_enter Try.func71, Try.ntmps71
  go_wp2
  go_quiet (fail)
  have hB : Below w.heap.size w ((w.alloc (.cells #[.int .u32 lo, .int .u32 ow, .int .u32 al] 31)).drewN nq) := pw_below_drewN ((Below.refl _ _).alloc (Nat.le_refl _) _) nq
  have A2 := Lib.hid (A.out.below hB)
  have P2 : Hid (Blk ((w.alloc (.cells #[.int .u32 lo, .int .u32 ow, .int .u32 al] 31)).drewN nq) w.heap.size 31 #[.int .u32 lo, .int .u32 ow, .int .u32 al]) := (Blk.new w _ _).drewN nq
  have O2 : Hid (At d w ((w.alloc (.cells #[.int .u32 lo, .int .u32 ow, .int .u32 al] 31)).drewN nq)) := Lib.hid (Only.of_below hB)
  clear d3 A hB
  generalize ((w.alloc (.cells #[.int .u32 lo, .int .u32 ow, .int .u32 al] 31)).drewN nq) = w2 at *
  have d2 := A2.out.blk.cell (i := 2) rfl
  have d3 := A2.out.blk.cell (i := 3) rfl
  have f2 := A2.out.blk.free 2
  have f3 := A2.out.blk.free 3
  have c0' := P2.out.cell (i := 0) rfl
  have c1' := P2.out.cell (i := 1) rfl
  have c2' := P2.out.cell (i := 2) rfl
  go_wp2
  go_still_tail 11, (by kernel_rfl)
  go_wp2_with fail
  have A3 := Lib.hid ((A2.out.co_ (co - q)).sz_ r).drew
  have O3 := Lib.hid ((At.cell O2.out 2 (.int .u32 (co - q))).cell 3 (.int .u32 r)).drew
  clear d2 d3 f2 f3 c0' c1' c2' A2 O2 P2
  generalize ((w2.setCell ⟨d, 2, none⟩ (.int .u32 (co - q))).setCell ⟨d, 3, none⟩ (.int .u32 r)).drew = w3 at *
  have d2 := A3.out.blk.cell (i := 2) rfl
  have d3 := A3.out.blk.cell (i := 3) rfl
  have f2 := A3.out.blk.free 2
  simp only at d2 d3
  obtain ⟨x, hx⟩ : ∃ x, x = min (co - q) (r - 1) := ⟨_, rfl⟩
  have m1 : (if r - 1 < co - q then r - 1 else co - q) = x := by omega
  have m2 : mn (co - q) (r - 1) = x := by unfold mn; omega
  have x0 : 0 ≤ x := by omega
  have x1 : x ≤ r - 1 := by omega
  rw [← hx] at HT
  clear hx
  go_still_tail 13, (by kernel_rfl)
  go_wp2_with fail
  have A4 := Lib.hid (A3.out.co_ x).drew
  have O4 := Lib.hid (At.cell O3.out 2 (.int .u32 x)).drew
  clear d2 d3 f2 A3 O3 m1 m2 w1 w4 w5 e1 e1' e2 e3
  generalize (w3.setCell ⟨d, 2, none⟩ (.int .u32 x)).drew = w4 at *
  go_loopg [] 2 (fun j wr => ∃ t : DSt, j ≤ 2 ∧ Enc.lw j ≤ t.sz ∧ t.sz < 4294967296 ∧ 0 ≤ t.co ∧ t.co < t.sz ∧ Hid (Byt t.bs) ∧ t.n + j ≤ 900000000002 ∧ Hid (dnorm j t = takeS ⟨bs, n, co, sz⟩ lo ow al) ∧ Hid (Is wr d 120 .u32 t v) ∧ Hid (At d w wr))
  case atStart => exact ⟨⟨bs, n, x, r⟩, Nat.le_refl _, by show (256 : Int) ≤ r; omega, by simp only; omega, x0, by simp only; omega, BY, by simp only; omega, HT.out.symm, A4, O4⟩
  case round =>
    clear A4 O4 HT BY
    obtain ⟨t, hj2, hlw, ts1, t0, t1, BY, hnn, HN, A3, O3⟩ := hrel
    have d3 := A3.out.blk.cell (i := 3) rfl
    have f3 := A3.out.blk.free 3
    by_cases hc : t.sz < 16777216
    · have hg : 0 < gk := by
        rcases Nat.eq_zero_or_pos gk with h | h
        · subst h; have : (16777216 : Int) ≤ t.sz := hlw; omega
        · exact h
      obtain ⟨j, rfl⟩ : ∃ j, gk = j + 1 := ⟨gk - 1, by omega⟩
      have HSt : Hid (dnorm (j + 1) t = dnorm j (nextS ⟨t.bs, t.n, t.co, t.sz * 256⟩)) := Lib.hid (by show (if t.sz < 16777216 then dnorm j (nextS ⟨t.bs, t.n, t.co, t.sz * 256⟩) else t) = _; rw [if_pos hc])
      have hlw2 : Enc.lw j ≤ t.sz * 256 := by
        rcases (show j = 0 ∨ j = 1 by omega) with h | h
        · subst h; have : (65536 : Int) ≤ t.sz := hlw; show (16777216 : Int) ≤ _; omega
        · subst h; have : (256 : Int) ≤ t.sz := hlw; show (65536 : Int) ≤ _; omega
      have NX := Lib.hid (next_calls (A3.out.sz_ (t.sz * 256)) BY.out t0 (by simp only; omega) (by simp only; omega))
      have O4 := Lib.hid (At.cell O3.out 3 (.int .u32 (t.sz * 256)))
      have w1 : IntKind.u32.wrap (t.sz * 256) = t.sz * 256 := Enc.wraps_u32 _ (by omega) (by omega)
      have hbt := bt_bd (s := ⟨t.bs, t.n, t.co, t.sz * 256⟩) BY.out
      clear hlw
      obtain ⟨tsz, htz⟩ : ∃ tsz, t.sz = tsz := ⟨_, rfl⟩
      rw [htz] at d3 ts1 t1 hc hlw2 O4 NX HSt w1 hbt
      clear htz
      go_wp2_with (go_at_call 67; refine NX.out.mono ?_; rintro e w4 ⟨rfl, a4, o4⟩; have A4 := Lib.hid a4; have O5 := Lib.hid (O4.out.trans o4); clear a4 o4)
      go_roundg j
      case measure => omega
      case rel => exact ⟨nextS ⟨t.bs, t.n, t.co, tsz * 256⟩, by omega, hlw2, by show tsz * 256 < _; omega, by show 0 ≤ t.co * 256 + _; omega, by show t.co * 256 + _ < tsz * 256; omega, BY, by show t.n + 1 + j ≤ _; omega, HSt.out.symm.trans HN.out, A4, O5⟩
    · have HF : Hid (takeS ⟨bs, n, co, sz⟩ lo ow al = t) := Lib.hid (HN.out.symm.trans (by
        cases gk with
        | zero => rfl
        | succ j => show (if t.sz < 16777216 then dnorm j _ else t) = _; rw [if_neg hc]))
      clear HN
      go_wp2
      rw [HF.out]
      exact bodyPost_end (results_none rfl _ _ _) rfl ⟨rfl, A3.out, O3.out⟩
theorem dnorm_ready (k : Nat) (hk : k ≤ 2) : ∀ t : DSt, Byt t.bs → 0 ≤ t.co → t.co < t.sz → Enc.lw k ≤ t.sz → t.sz < 4294967296 → (dnorm k t).Ready ∧ (dnorm k t).bs = t.bs ∧ t.n ≤ (dnorm k t).n ∧ (dnorm k t).n ≤ t.n + k ∧ (dnorm k t).co < (dnorm k t).sz := by
  induction k with
  | zero => intro t h1 h2 h3 h4 h5; exact ⟨⟨h1, h2, by simp only [dnorm]; omega, h4, h5⟩, rfl, Nat.le_refl _, Nat.le_refl _, h3⟩
  | succ k ih =>
    intro t h1 h2 h3 h4 h5
    unfold dnorm
    by_cases hc : t.sz < 16777216
    · rw [if_pos hc]
      have hlw2 : Enc.lw k ≤ t.sz * 256 := by
        rcases (show k = 0 ∨ k = 1 by omega) with h | h
        · subst h; have : (65536 : Int) ≤ t.sz := h4; show (16777216 : Int) ≤ _; omega
        · subst h; have : (256 : Int) ≤ t.sz := h4; show (65536 : Int) ≤ _; omega
      have hb := bt_bd (s := ⟨t.bs, t.n, t.co, t.sz * 256⟩) h1
      obtain ⟨r1, r2, r3, r4, r5⟩ := ih (by omega) (nextS ⟨t.bs, t.n, t.co, t.sz * 256⟩) h1 (by show 0 ≤ t.co * 256 + _; omega) (by show t.co * 256 + _ < t.sz * 256; omega) hlw2 (by show t.sz * 256 < _; omega)
      have e1 : (nextS ⟨t.bs, t.n, t.co, t.sz * 256⟩).n = t.n + 1 := rfl
      exact ⟨r1, r2, by omega, by omega, r5⟩
    · rw [if_neg hc]
      exact ⟨⟨h1, h2, by omega, by omega, h5⟩, rfl, Nat.le_refl _, by omega, h3⟩
/-- What is taken may be taken. -/
theorem take_ready {s : DSt} (ok : s.Ready) {lo ow al : Int} (may : Enc.May lo ow al) (le : s.sz / al * lo ≤ s.co) : (takeS s lo ow al).Ready ∧ (takeS s lo ow al).bs = s.bs ∧ s.n ≤ (takeS s lo ow al).n ∧ (takeS s lo ow al).n ≤ s.n + 2 := by
  obtain ⟨p0, p1, p2, p3⟩ := may
  have s0 := ok.s0
  have s1 := ok.s1
  obtain ⟨each, hE⟩ : ∃ each, each = s.sz / al := ⟨_, rfl⟩
  have b2 := Enc.mul_bd each ow al s.sz hE (by omega) (by omega) (by omega) (by omega)
  have b3 := Enc.each_lo al s.sz (by omega) p3 s0
  have b4 : each * 1 ≤ each * ow := Int.mul_le_mul_of_nonneg_left p1 (by rw [hE]; omega)
  unfold takeS
  rw [← hE] at b3 le ⊢
  obtain ⟨r1, r2, r3, r4, _⟩ := dnorm_ready 2 (by omega) ⟨s.bs, s.n, min (s.co - each * lo) (each * ow - 1), each * ow⟩ ok.by_ (by simp only; omega) (by simp only; omega) (by show (256 : Int) ≤ each * ow; omega) (by simp only; omega)
  exact ⟨r1, r2, r3, r4⟩
/-- The part that is there, lies at or below the number. -/
theorem at_le {s : DSt} (ok : s.Ready) {al x : Int} (a0 : 1 ≤ al) (a1 : al ≤ 8192) (h : x ≤ atS s al) : s.sz / al * x ≤ s.co := by
  have b3 := Enc.each_lo al s.sz a0 a1 ok.s0
  have h2 : x ≤ s.co / (s.sz / al) := by unfold atS at h; omega
  have h3 : s.sz / al * x ≤ s.sz / al * (s.co / (s.sz / al)) := Int.mul_le_mul_of_nonneg_left h2 (by omega)
  have h4 : s.sz / al * (s.co / (s.sz / al)) ≤ s.co := by rw [Int.mul_comm]; exact Int.ediv_mul_le _ (by omega)
  omega
theorem at_bd {s : DSt} (ok : s.Ready) {al : Int} (a0 : 1 ≤ al) (a1 : al ≤ 8192) : 0 ≤ atS s al ∧ atS s al ≤ al - 1 := by
  have b3 := Enc.each_lo al s.sz a0 a1 ok.s0
  have h2 : 0 ≤ s.co / (s.sz / al) := Int.ediv_nonneg ok.c0 (by omega)
  unfold atS
  omega
theorem next_bd {s : DSt} (h : Byt s.bs) {B : Int} (h0 : 0 ≤ s.co) (h1 : s.co < B) : Byt (nextS s).bs ∧ 0 ≤ (nextS s).co ∧ (nextS s).co < B * 256 := by
  have := bt_bd h
  exact ⟨h, by show 0 ≤ s.co * 256 + bt s; omega, by show s.co * 256 + bt s < _; omega⟩
theorem open_ready (bs : List Int) (h : Byt bs) : (openS bs).Ready := by
  have h1 := next_bd (s := ⟨bs, 0, 0, 4294967295⟩) h (B := 1) (by show (0 : Int) ≤ 0; decide) (by show (0 : Int) < 1; decide)
  have h2 := next_bd h1.1 h1.2.1 h1.2.2
  have h3 := next_bd h2.1 h2.2.1 h2.2.2
  have h4 := next_bd h3.1 h3.2.1 h3.2.2
  refine ⟨h4.1, h4.2.1, ?_, by show (16777216 : Int) ≤ 4294967295; decide, by show (4294967295 : Int) < 4294967296; decide⟩
  show (openS bs).co ≤ 4294967295
  have := h4.2.2
  unfold openS
  omega
theorem Sl.empty (w : World) (e : TypeId) (k : IntKind) : Sl (w.alloc (.cells #[] e)) e k (.slice (some ⟨w.heap.size, 0, none⟩) 0 0) [] :=
  .inr ⟨w.heap.size, 0, rfl, #[], Blk.new w e #[], Nat.le_refl _, Nat.zero_le _, rfl, fun i h => by cases h⟩
theorem Added.fresh {w w1 : World} {o : Obj} {e : TypeId} {k : IntKind} {v1 : Value} {ys : List Int} (h : Added (w.alloc o) w1 e k (.slice (some ⟨w.heap.size, 0, none⟩) 0 0) v1 ys (w.alloc o).heap.size) :
    Below w.heap.size w w1 ∧ ∀ g, v1.ownBlock = some g → w.heap.size ≤ g := by
  have hs : (w.alloc o).heap.size = w.heap.size + 1 := by simp
  have e0 : (Value.slice (some ⟨w.heap.size, 0, none⟩) 0 0).ownBlock = some w.heap.size := rfl
  refine ⟨((Below.refl _ _).alloc (Nat.le_refl _) _ : Below _ _ _).trans (h.only.below (B := w.heap.size) (by omega) (fun i hi => ?_)), fun g hg => ?_⟩
  · rw [e0] at hi; injection hi with hi; omega
  · rcases h.at_ with h1 | h1
    · rw [h1, e0] at hg; injection hg with hg; omega
    · rw [h1] at hg; injection hg with hg; omega
set_option maxRecDepth 100000 in
/-- A copy. -/
theorem Clone_calls {w : World} {u : Value} {bs : List Int} (src : Src w .u8 u bs) (hl : bs.length ≤ 1000000000) : Calls Try.prog 66 #[u] w fun e w' => ∃ v, e = .returned v ∧ Sl w' 5 .u8 v bs ∧ Below w.heap.size w w' ∧ (∀ g, v.ownBlock = some g → w.heap.size ≤ g) := by
  obtain ⟨A, c, rfl, h⟩ := src
  have H := Lib.hid h
  have qT : ∀ (w : World) (a : Option Addr) (n c n' c' : Nat), (binOp .eql 35 (.slice a n c) (.slice none n' c')).run Try.prog w = .ok (.bool a.isNone) w := fun w a n c n' c' => Lib.run_eql_slice_nil w _ _ a n c n' c' Try.underlying35
  cases A with
  | none =>
    have h0 : bs = [] := by
      by_cases hp : 0 < bs.length
      · obtain ⟨ad, h, _⟩ := h hp; cases h
      · exact List.eq_nil_of_length_eq_zero (by omega)
    subst h0
    clear h H hl
    go_enter Try.func66, Try.ntmps66
    go_wp2
    go_ret
    exact ⟨_, rfl, Sl.nil _ _ _, Below.refl _ _, fun g hg => by cases hg⟩
  | some ad =>
    clear h
    have h0 : Sl (w.alloc (.cells #[] 5)) 5 .u8 (.slice (some ⟨w.heap.size, 0, none⟩) 0 0) [] := Sl.empty w _ _
    have SR : Src (w.alloc (.cells #[] 5)) .u8 (.slice (some ad) bs.length c) bs := Src.below ⟨some ad, c, rfl, H.out⟩ ((Below.refl _ _).alloc (Nat.le_refl _) _)
    have S0 := Lib.hid h0
    have SR := Lib.hid SR
    clear h0
    go_enter Try.func66, Try.ntmps66
    go_wp2_with (first
      | (at_builtin; refine wpList_add (.tmp 5) (.tmp 6) 35 5 .u8 0 1 rfl rfl Try.underlying35 Enc.info_u8 _ _ [] bs rfl rfl S0.out SR.out (by simp; omega) (by simp; omega) ?_
         intro v1 w1 hp
         have HP := Lib.hid hp
         clear hp))
    go_ret
    exact ⟨v1, rfl, HP.out.sl, Added.fresh HP.out⟩
def nexts : Nat → DSt → DSt
  | 0, s => s
  | n + 1, s => nexts n (nextS s)
theorem open_nexts (bs : List Int) : openS bs = nexts 4 ⟨bs, 0, 0, 4294967295⟩ := rfl
theorem pow_lt4 {k : Nat} (h : k < 4) : (256 : Int) ^ k ≤ 16777216 := by
  rcases (show k = 0 ∨ k = 1 ∨ k = 2 ∨ k = 3 by omega) with h | h | h | h <;> subst h <;> decide
set_option maxHeartbeats 2000000 in
set_option maxRecDepth 100000 in
theorem New_calls {w : World} {u : Value} {bs : List Int} (src : Src w .u8 u bs) (hb : Byt bs) :
    Calls Try.prog 33 #[u] w fun e w' => ∃ d v, e = .returned (.pointer (some ⟨d, 0, none⟩)) ∧ w.heap.size ≤ d ∧ (∀ g, v.ownBlock = some g → w.heap.size ≤ g) ∧ Is w' d 120 .u32 (openS bs) v ∧ Below w.heap.size w w' := by
  have HC := Lib.hid (Clone_calls src hb.2)
  have HB := Lib.hid hb
  clear src hb
  go_enter Try.func33, Try.ntmps33
  go_wp2_with fail
  refine HC.out.mono ?_
  rintro e1 w1 ⟨v1, rfl, sl, b1, own⟩
  have hs1 := b1.size
  have S1 := Lib.hid sl
  have B1 := Lib.hid b1
  have O1 := Lib.hid own
  clear sl b1 own
  obtain ⟨ad, cap, rfl, _⟩ := S1.out.form
  have HI : Hid (Is (w1.alloc (.cells #[.slice ad bs.length cap, .int .i64 0, .int .u32 0, .int .u32 4294967295] 120)) w1.heap.size 120 .u32 ⟨bs, 0, 0, 4294967295⟩ (.slice ad bs.length cap)) :=
    Lib.hid ⟨Blk.new w1 _ _, S1.out.alloc _, fun e => by have := S1.out.lt e; omega⟩
  have B2 : Hid (Below w.heap.size w (w1.alloc (.cells #[.slice ad bs.length cap, .int .i64 0, .int .u32 0, .int .u32 4294967295] 120))) := Lib.hid (B1.out.alloc hs1 _)
  clear B1
  go_wp2_with fail
  go_loopw [8] (fun i wr => ∃ (k : Nat) (t : DSt), k ≤ 4 ∧ i = .int .i64 (k : Int) ∧ Hid (nexts (4 - k) t = openS bs) ∧ Hid (Byt t.bs) ∧ 0 ≤ t.co ∧ Hid (t.co < 256 ^ k) ∧ t.n = k ∧ Hid (Is wr w1.heap.size 120 .u32 t (.slice ad bs.length cap)) ∧ Hid (Below w.heap.size w wr)) (fun i _ => 4 - (intOf i).toNat)
  case atStart => exact ⟨0, ⟨bs, 0, 0, 4294967295⟩, by omega, rfl, rfl, HB, by simp only; omega, Lib.hid (by show (0 : Int) < 256 ^ 0; decide), rfl, HI, B2⟩
  case round =>
    clear HI B2 HB
    obtain ⟨k, t, hk, rfl, HN, HB, t0, HL, hn, HI, B2⟩ := hrel
    by_cases hlt : k < 4
    · have hp := pow_lt4 hlt
      have hL := HL.out
      have NX := Lib.hid (next_calls HI.out HB.out t0 (by omega) (by omega))
      clear hp hL
      go_wp2_with (go_at_call 67; refine NX.out.mono ?_; rintro e w4 ⟨rfl, a4, o4⟩; have A4 := Lib.hid a4; have O5 := Lib.hid o4; clear a4 o4)
      go_roundw
      case rel =>
        have hbt := bt_bd HB.out
        refine ⟨k + 1, nextS t, by omega, by push_cast; rfl, ?_, HB, by show 0 ≤ t.co * 256 + _; omega, ?_, by show t.n + 1 = k + 1; omega, A4, B2.out.trans (O5.out.below (by have := B2.out.size; omega) (fun i hi => by omega))⟩
        · have e : 4 - k = (4 - (k + 1)) + 1 := by omega
          have := HN.out
          rw [e] at this
          exact this
        · have hL := HL.out
          show t.co * 256 + _ < (256 : Int) ^ (k + 1)
          rw [Int.pow_succ]; omega
      case measure => simp [intOf]; omega
    · obtain rfl : k = 4 := by omega
      have hN : t = openS bs := HN.out
      subst hN
      go_wp2
      go_ret
      exact ⟨w1.heap.size, _, rfl, hs1, O1.out, HI.out, B2.out⟩
end Go.Proofs.Ytlbjoflmfboeeaa.Deco

/-
  The walks of the program's decoder: Symbol, Bits, Over; no condition but those told.
-/
set_option linter.unusedVariables false
set_option linter.unusedSimpArgs false
namespace Go.Proofs.Ytlbjoflmfboeeaa.Deco
open Go.RowKit Go.Proofs.Ytlbjoflmfboeeaa Go.Proofs.YtlbjoflmfboeeaaW.PrintWords

/-- The symbol that comes. -/
def symK (s : DSt) (L : List Int) : Nat := Mdl.find L (atS s (Mdl.lsum L))
def symS (s : DSt) (L : List Int) : DSt := takeS s (Mdl.lsum (L.take (symK s L))) (L.getD (symK s L) 0) (Mdl.lsum L)
theorem find_low (L : List Int) (x : Int) (h0 : 0 ≤ x) : Mdl.lsum (L.take (Mdl.find L x)) ≤ x := by
  rcases Nat.eq_zero_or_pos (Mdl.find L x) with h | h
  · rw [h]; exact h0
  · have := Mdl.find_before L x (Mdl.find L x - 1) (by omega)
    rwa [show Mdl.find L x - 1 + 1 = Mdl.find L x from by omega] at this
theorem sym_lt {s : DSt} {L : List Int} (good : Mdl.Good L) : symK s L < L.length := Mdl.find_lt L _ good.len1
theorem sym_le {s : DSt} (ok : s.Ready) {L : List Int} (good : Mdl.Good L) : s.sz / Mdl.lsum L * Mdl.lsum (L.take (symK s L)) ≤ s.co :=
  at_le ok good.sum1 good.all (find_low L _ (at_bd ok good.sum1 good.all).1)
theorem sym_ready {s : DSt} (ok : s.Ready) {L : List Int} (good : Mdl.Good L) : (symS s L).Ready ∧ (symS s L).bs = s.bs ∧ s.n ≤ (symS s L).n ∧ (symS s L).n ≤ s.n + 2 :=
  take_ready ok (Enc.may_of good _ (sym_lt good)) (sym_le ok good)
attribute [local irreducible] takeS atS bt
set_option maxHeartbeats 2000000 in
set_option maxRecDepth 100000 in
theorem Symbol_yes {w : World} {d m h cap : Nat} {s : DSt} {v : Value} {L : List Int} {f : Bool} (a : Is w d 120 .u32 s v) (ok : s.Ready) (hn : s.n ≤ 900000000000) (b : Mdl.Is w m h cap L f) (good : Mdl.Good L)
    (n1 : d ≠ m) (n2 : d ≠ h) (n3 : v.ownBlock ≠ some m) (n4 : v.ownBlock ≠ some h) :
    Calls Try.prog 35 #[.pointer (some ⟨d, 0, none⟩), .pointer (some ⟨m, 0, none⟩)] w fun e w' => e = .returned (.tuple #[.int .i64 (symK s L), .int .i64 0]) ∧
      Is w' d 120 .u32 (symS s L) v ∧ Mdl.Is w' m h cap (Mdl.next f L (symK s L)) f ∧ Only (fun i => i = d ∨ (i = m ∨ i = h)) w w' := by
  have A := Lib.hid a
  have B := Lib.hid b
  have G := Lib.hid good
  have OK := Lib.hid ok
  have N3 := Lib.hid n3
  have N4 := Lib.hid n4
  have lm := b.blk.lt
  have lh := b.row.lt
  have ld := a.blk.lt
  have OL : Hid (∀ g, v.ownBlock = some g → g < w.heap.size) := Lib.hid (fun g hg => a.sl.lt hg)
  have HK := Lib.hid (sym_lt (s := s) good)
  have MY := Lib.hid (Enc.may_of good _ (sym_lt (s := s) good))
  have LE := Lib.hid (sym_le ok good)
  have HS : Hid (symS s L = takeS s (Mdl.lsum (L.take (symK s L))) (L.getD (symK s L) 0) (Mdl.lsum L)) := Lib.hid rfl
  have HF : Hid (Mdl.find L (atS s (Mdl.lsum L)) = symK s L) := Lib.hid rfl
  have AB := Lib.hid (at_bd ok good.sum1 good.all)
  have l1 := good.len1
  have P1 := Lib.hid (Mdl.Part_some b good 0 (by omega))
  have al0 := Lib.hid good.sum1
  have al1 := Lib.hid good.all
  clear a b good ok n3 n4
  obtain ⟨al, hal⟩ : ∃ al, Mdl.lsum L = al := ⟨_, rfl⟩
  rw [hal] at MY LE HS HF AB P1 al0 al1
  obtain ⟨x0, hx0⟩ : ∃ x, Mdl.lsum (L.take 0) = x := ⟨_, rfl⟩
  obtain ⟨y0, hy0⟩ : ∃ x, L.getD 0 0 = x := ⟨_, rfl⟩
  rw [hx0, hy0] at P1
  clear hx0 hy0
  have HA := Lib.hid hal
  clear hal
  obtain ⟨k, hk⟩ : ∃ k, symK s L = k := ⟨_, rfl⟩
  rw [hk] at HK MY LE HS HF ⊢
  clear hk
  obtain ⟨lo, hlo⟩ : ∃ x, Mdl.lsum (L.take k) = x := ⟨_, rfl⟩
  obtain ⟨ow, how⟩ : ∃ x, L.getD k 0 = x := ⟨_, rfl⟩
  rw [hlo, how] at MY HS
  rw [hlo] at LE
  have HLo := Lib.hid hlo
  have HOw := Lib.hid how
  clear hlo how
  unfold Mdl.part at P1
  go_enter Try.func35, Try.ntmps35
  go_wp2_with fail
  refine P1.out.mono ?_
  rintro e1 w1 ⟨rfl, b1⟩
  have s1 := b1.size
  have B1 := Lib.hid b1
  clear b1
  go_wp2_with fail
  have hb2 : Below w.heap.size w (w1.alloc (.cells #[.int .u32 x0, .int .u32 y0, .int .u32 al] 31)) := B1.out.alloc s1 _
  have A2 := Lib.hid (A.out.below hb2)
  have M2 : Hid (Mdl.Is (w1.alloc (.cells #[.int .u32 x0, .int .u32 y0, .int .u32 al] 31)) m h cap L f) := Lib.hid (B.out.only (Only.of_below hb2 : Only (fun _ => False) _ _) (fun x => x) (fun x => x))
  have PB := Lib.hid (Blk.new w1 31 #[.int .u32 x0, .int .u32 y0, .int .u32 al])
  have O2 : Hid (Only (fun i => i = d ∨ (i = m ∨ i = h)) w (w1.alloc (.cells #[.int .u32 x0, .int .u32 y0, .int .u32 al] 31))) := Lib.hid (Only.of_below hb2)
  have l2 : w1.heap.size < (w1.alloc (.cells #[.int .u32 x0, .int .u32 y0, .int .u32 al] 31)).heap.size := by simp
  clear hb2 A B B1
  refine (at_calls A2.out OK.out al al0.out al1.out).mono ?_
  rintro e2 w2 ⟨rfl, nq, rfl⟩
  have A3 := Lib.hid (A2.out.drewN nq)
  have M3 := Lib.hid (M2.out.drewN nq)
  have PB3 := Lib.hid (PB.out.drewN nq)
  have O3 := Lib.hid (O2.out.drewN nq)
  have l3 : w1.heap.size < ((w1.alloc (.cells #[.int .u32 x0, .int .u32 y0, .int .u32 al] 31)).drewN nq).heap.size := l2
  clear A2 M2 PB O2 l2
  generalize (w1.alloc (.cells #[.int .u32 x0, .int .u32 y0, .int .u32 al] 31)).drewN nq = w3 at *
  generalize w1.heap.size = p at *
  go_wp2_with fail
  have FD := Lib.hid (Mdl.Find_some M3.out G.out (atS s al) AB.out.1 (by have := AB.out.2; have := al1.out; omega))
  rw [HF.out] at FD
  refine FD.out.mono ?_
  rintro e4 w4 ⟨rfl, rfl⟩
  go_wp2_with fail
  have P5 := Lib.hid (Mdl.Part_some M3.out G.out k HK.out)
  rw [HLo.out, HOw.out, HA.out] at P5
  refine P5.out.mono ?_
  rintro e5 w5 ⟨rfl, b5⟩
  have A5 := Lib.hid (A3.out.below b5)
  have M5 : Hid (Mdl.Is w5 m h cap L f) := Lib.hid (M3.out.only (Only.of_below b5 : Only (fun _ => False) _ _) (fun x => x) (fun x => x))
  have PB5 := Lib.hid (PB3.out.below b5 l3)
  have O5 : Hid (Only (fun i => i = d ∨ (i = m ∨ i = h)) w w5) := Lib.hid (O3.out.trans (Only.of_below b5))
  clear FD P5 b5 A3 M3 PB3 O3 l3
  unfold Mdl.part
  have f0 := PB5.out.free 0
  have f1 := PB5.out.free 1
  have f2 := PB5.out.free 2
  have q0 := PB5.out.cell (i := 0) rfl
  have q1 := PB5.out.cell (i := 1) rfl
  have q2 := PB5.out.cell (i := 2) rfl
  go_wp2_with fail
  have hp : w.heap.size ≤ p := by omega
  have O6 : Hid (Only (fun i => i = d ∨ (i = m ∨ i = h)) w (((w5.setCell ⟨p, 0, none⟩ (.int .u32 lo)).setCell ⟨p, 1, none⟩ (.int .u32 ow)).setCell ⟨p, 2, none⟩ (.int .u32 al))) :=
    Lib.hid (((O5.out.set (p := ⟨p, 0, none⟩) (.inr hp) _).set (p := ⟨p, 1, none⟩) (.inr hp) _).set (p := ⟨p, 2, none⟩) (.inr hp) _)
  have oP : Only (fun i => i = p) w5 (((w5.setCell ⟨p, 0, none⟩ (.int .u32 lo)).setCell ⟨p, 1, none⟩ (.int .u32 ow)).setCell ⟨p, 2, none⟩ (.int .u32 al)) :=
    At.cell (At.cell (At.cell (At.refl p w5) 0 _) 1 _) 2 _
  have A6 := Lib.hid (A5.out.only oP (by omega) (fun g hg => by have := OL.out g hg; omega))
  have M6 := Lib.hid (M5.out.only oP (by omega) (by omega))
  clear oP A5 M5 PB5 O5 f0 f1 f2 q0 q1 q2 OL
  generalize (((w5.setCell ⟨p, 0, none⟩ (.int .u32 lo)).setCell ⟨p, 1, none⟩ (.int .u32 ow)).setCell ⟨p, 2, none⟩ (.int .u32 al)) = w6 at *
  refine (take_calls A6.out OK.out lo ow al MY.out LE.out hn).mono ?_
  rintro e7 w7 ⟨rfl, a7, o7⟩
  have A7 := Lib.hid a7
  have M7 := Lib.hid (M6.out.only o7 (fun e => n1 e.symm) (fun e => n2 e.symm))
  have O7 : Hid (Only (fun i => i = d ∨ (i = m ∨ i = h)) w w7) := Lib.hid (O6.out.then o7 (fun i hi => .inl (.inl hi)))
  clear a7 o7 A6 M6 O6
  go_wp2_with fail
  refine (Mdl.Learn_any M7.out G.out k HK.out).mono ?_
  rintro e8 w8 ⟨rfl, b8, o8⟩
  have A8 := Lib.hid (A7.out.only o8 (fun hh => by rcases hh with hh | hh; exact n1 hh; exact n2 hh) (fun g hg hh => by
    rcases hh with hh | hh
    · subst hh; exact N3.out hg
    · subst hh; exact N4.out hg))
  have M8 := Lib.hid b8
  have O8 : Hid (Only (fun i => i = d ∨ (i = m ∨ i = h)) w w8) := Lib.hid (O7.out.then o8 (fun i hi => .inl (.inr hi)))
  clear b8 o8
  go_wp2_with fail
  go_ret2
  rw [HS.out]
  exact ⟨rfl, A8.out, M8.out, O8.out⟩
theorem Symbol_none {w : World} {m h cap : Nat} {L : List Int} {f : Bool} (b : Mdl.Is w m h cap L f) (good : Mdl.Good L) :
    Calls Try.prog 35 #[.pointer none, .pointer (some ⟨m, 0, none⟩)] w fun en w' => en = .returned (.tuple #[.int .i64 0, .int .i64 1]) ∧ Below w.heap.size w w' := by
  have P1 := Lib.hid (Mdl.Part_some b good 0 (by have := good.len1; omega))
  clear b good
  generalize Mdl.lsum L = al at *
  generalize Mdl.lsum (L.take 0) = x0 at *
  generalize L.getD 0 0 = y0 at *
  unfold Mdl.part at P1
  go_enter Try.func35, Try.ntmps35
  go_wp2_with fail
  refine P1.out.mono ?_
  rintro e1 w1 ⟨rfl, b1⟩
  have s1 := b1.size
  have B1 := Lib.hid b1
  clear b1
  go_wp2_with fail
  go_ret2
  exact ⟨rfl, B1.out.alloc s1 _⟩
theorem Symbol_nomodel (d : Nat) (w : World) :
    Calls Try.prog 35 #[.pointer (some ⟨d, 0, none⟩), .pointer none] w fun en w' => en = .returned (.tuple #[.int .i64 0, .int .i64 1]) ∧ Below w.heap.size w w' := by
  have P1 := Lib.hid (Mdl.Part_none (.int .i64 0) w)
  unfold Mdl.part at P1
  go_enter Try.func35, Try.ntmps35
  go_wp2_with fail
  refine P1.out.mono ?_
  rintro e1 w1 ⟨rfl, b1⟩
  have s1 := b1.size
  have B1 := Lib.hid b1
  clear b1
  go_wp2_with fail
  go_ret2
  exact ⟨rfl, B1.out.alloc s1 _⟩
theorem Over_none (w : World) : Calls Try.prog 39 #[.pointer none] w fun en w' => en = .returned (.int .i64 0) ∧ w' = w := by
  go_enter Try.func39, Try.ntmps39
  go_wp2
  go_ret
  exact ⟨rfl, rfl⟩
theorem Over_calls {w : World} {d : Nat} {s : DSt} {v : Value} (a : Is w d 120 .u32 s v) (hb : s.bs.length ≤ 1000000000) (hn : s.n ≤ 1000000000000) :
    Calls Try.prog 39 #[.pointer (some ⟨d, 0, none⟩)] w fun en w' => en = .returned (.int .i64 (max ((s.n : Int) - s.bs.length) 0)) ∧ ∃ n, w' = w.drewN n := by
  obtain ⟨ad, cap, rfl, _⟩ := a.sl.form
  have d0 := a.blk.cell (i := 0) rfl
  have d1 := a.blk.cell (i := 1) rfl
  obtain ⟨bs, n, co, sz⟩ := s
  simp only at *
  generalize bs.length = l at *
  clear a
  have w1 : IntKind.i64.wrap ((n : Int) - l) = (n : Int) - l := wrapI64 (by omega) (by omega)
  by_cases hc : (n : Int) - l < 0
  · have hm : max ((n : Int) - l) 0 = 0 := by omega
    rw [hm]
    go_enter Try.func39, Try.ntmps39
    go_wp2
    go_quiet (fail)
    go_wp2
    go_ret
    exact ⟨rfl, nq, rfl⟩
  · have hm : max ((n : Int) - l) 0 = (n : Int) - l := by omega
    rw [hm]
    go_enter Try.func39, Try.ntmps39
    go_wp2
    go_quiet (fail)
    go_wp2
    go_ret
    exact ⟨rfl, nq, rfl⟩
/-- The number and the state behind so many bits; n came before. -/
def bitsD (s : DSt) (n : Int) (w : Nat) : Int × DSt :=
  if w = 0 then (n, s) else if w ≤ 12 then (n * 2 ^ w + atS s (2 ^ w), takeS s (atS s (2 ^ w)) 1 (2 ^ w))
  else ((n * 4096 + atS s 4096) * 2 ^ (w - 12) + atS (takeS s (atS s 4096) 1 4096) (2 ^ (w - 12)), takeS (takeS s (atS s 4096) 1 4096) (atS (takeS s (atS s 4096) 1 4096) (2 ^ (w - 12))) 1 (2 ^ (w - 12)))
theorem bits_step (s : DSt) (n : Int) (j i : Nat) (hi : j = i + 12) (h0 : 0 < i) (h12 : i ≤ 12) : bitsD s n j = bitsD (takeS s (atS s 4096) 1 4096) (n * 4096 + atS s 4096) i := by
  unfold bitsD
  rw [if_neg (by omega), if_neg (by omega), if_neg (by omega), if_pos (by omega), show j - 12 = i from by omega]
theorem bits_last (s : DSt) (n : Int) (j : Nat) (h0 : 0 < j) (h12 : j ≤ 12) : bitsD s n j = (n * 2 ^ j + atS s (2 ^ j), takeS s (atS s (2 ^ j)) 1 (2 ^ j)) := by
  unfold bitsD
  rw [if_neg (by omega), if_pos h12]
theorem bits_nought (s : DSt) (n : Int) : bitsD s n 0 = (n, s) := by unfold bitsD; rw [if_pos rfl]
theorem pow12 {j : Nat} (h : j ≤ 12) : (1 : Int) ≤ 2 ^ j ∧ (2 : Int) ^ j ≤ 4096 := by
  have h3 : (0 : Int) < 2 ^ j := Int.pow_pos (by omega)
  have h4 := Nat.pow_le_pow_right (show 0 < 2 by decide) h
  have h5 : (2 : Int) ^ j ≤ 2 ^ 12 := by exact_mod_cast h4
  have e12 : (2 : Int) ^ 12 = 4096 := by decide
  omega
theorem pow24 {j : Nat} (h : j ≤ 24) : (1 : Int) ≤ 2 ^ j ∧ (2 : Int) ^ j ≤ 16777216 := by
  have h3 : (0 : Int) < 2 ^ j := Int.pow_pos (by omega)
  have h4 := Nat.pow_le_pow_right (show 0 < 2 by decide) h
  have h5 : (2 : Int) ^ j ≤ 2 ^ 24 := by exact_mod_cast h4
  have e24 : (2 : Int) ^ 24 = 16777216 := by decide
  omega
/-- One step: at most twelve bits. -/
theorem bits_more {s : DSt} (ok : s.Ready) {n : Int} {j : Nat} (hj : 0 < j) (h24 : j ≤ 24) : ∃ k i : Nat, 0 < k ∧ k ≤ 12 ∧ j = i + k ∧ k = min j 12 ∧ bitsD s n j = bitsD (takeS s (atS s (2 ^ k)) 1 (2 ^ k)) (n * 2 ^ k + atS s (2 ^ k)) i := by
  by_cases hc : 12 < j
  · exact ⟨12, j - 12, by omega, by omega, by omega, by omega, bits_step s n j (j - 12) (by omega) (by omega) (by omega)⟩
  · refine ⟨j, 0, hj, by omega, by omega, by omega, ?_⟩
    rw [bits_nought, bits_last s n j hj (by omega)]
theorem at_may {s : DSt} (ok : s.Ready) {al : Int} (a0 : 1 ≤ al) (a1 : al ≤ 8192) : Enc.May (atS s al) 1 al := by
  have := at_bd ok a0 a1
  exact ⟨this.1, by omega, by omega, a1⟩
theorem at_ready {s : DSt} (ok : s.Ready) {al : Int} (a0 : 1 ≤ al) (a1 : al ≤ 8192) : (takeS s (atS s al) 1 al).Ready ∧ (takeS s (atS s al) 1 al).bs = s.bs ∧ s.n ≤ (takeS s (atS s al) 1 al).n ∧ (takeS s (atS s al) 1 al).n ≤ s.n + 2 :=
  take_ready ok (at_may ok a0 a1) (at_le ok a0 a1 (Int.le_refl _))
theorem bits_ready {s : DSt} (ok : s.Ready) (n : Int) (w : Nat) (hw : w ≤ 24) : (bitsD s n w).2.Ready ∧ (bitsD s n w).2.bs = s.bs ∧ s.n ≤ (bitsD s n w).2.n ∧ (bitsD s n w).2.n ≤ s.n + 4 := by
  unfold bitsD
  split
  · exact ⟨ok, rfl, Nat.le_refl _, Nat.le_add_right _ _⟩
  · split
    · rename_i h0 h1
      have hp := pow12 h1
      obtain ⟨r1, r2, r3, r4⟩ := at_ready ok hp.1 (show (2 : Int) ^ w ≤ 8192 by omega)
      exact ⟨r1, r2, r3, Nat.le_trans r4 (by omega)⟩
    · rename_i h0 h1
      have hp := pow12 (show w - 12 ≤ 12 by omega)
      obtain ⟨r1, r2, r3, r4⟩ := at_ready ok (al := 4096) (by decide) (by decide)
      obtain ⟨q1, q2, q3, q4⟩ := at_ready r1 hp.1 (show (2 : Int) ^ (w - 12) ≤ 8192 by omega)
      exact ⟨q1, by rw [← r2, ← q2], Nat.le_trans r3 q3, Nat.le_trans q4 (by omega)⟩
theorem bits_bd {s : DSt} (ok : s.Ready) (w : Nat) (hw : w ≤ 24) : 0 ≤ (bitsD s 0 w).1 ∧ (bitsD s 0 w).1 < 16777216 := by
  unfold bitsD
  split
  · exact ⟨Int.le_refl _, by show (0 : Int) < 16777216; decide⟩
  · split
    · rename_i h0 h1
      have hp := pow12 h1
      have hb := at_bd ok hp.1 (show (2 : Int) ^ w ≤ 8192 by omega)
      constructor <;> (simp only; omega)
    · rename_i h0 h1
      have hp := pow12 (show w - 12 ≤ 12 by omega)
      have hb := at_bd ok (al := 4096) (by decide) (by decide)
      have hq := at_bd (at_ready ok (al := 4096) (by decide) (by decide)).1 hp.1 (show (2 : Int) ^ (w - 12) ≤ 8192 by omega)
      generalize atS (takeS s (atS s 4096) 1 4096) (2 ^ (w - 12)) = y at *
      generalize atS s 4096 = x at *
      generalize (2 : Int) ^ (w - 12) = p at *
      have h1 : (0 * 4096 + x) * p ≤ 4095 * p := Int.mul_le_mul_of_nonneg_right (by omega) (by omega)
      have h2 : 0 ≤ (0 * 4096 + x) * p := Int.mul_nonneg (by omega) (by omega)
      constructor <;> (simp only; omega)
attribute [local irreducible] bitsD
set_option maxHeartbeats 2000000 in
set_option maxRecDepth 100000 in
theorem Bits_yes {w : World} {d : Nat} {s : DSt} {v : Value} (a : Is w d 120 .u32 s v) (ok : s.Ready) (hn : s.n ≤ 800000000000) (wide : Nat) (h2 : wide ≤ 24) :
    Calls Try.prog 37 #[.pointer (some ⟨d, 0, none⟩), .int .i64 wide] w fun en w' => en = .returned (.tuple #[.int .u32 (bitsD s 0 wide).1, .int .i64 0]) ∧ Is w' d 120 .u32 (bitsD s 0 wide).2 v ∧ At d w w' := by
  have y1 : decide ((wide : Int) < 0) = false := decide_eq_false (by omega)
  have y2 : decide ((24 : Int) < (wide : Int)) = false := decide_eq_false (by omega)
  have A := Lib.hid a
  have R0 := Lib.hid ok
  clear a ok
  go_enter Try.func37, Try.ntmps37
  go_wp2
  clear y1 y2
  go_loopw [1, 6] (fun u nv wr => ∃ (j : Nat) (t : DSt) (n : Int), j ≤ 24 ∧ u = .int .i64 (j : Int) ∧ nv = .int .u32 n ∧ 0 ≤ n ∧ Hid ((n + 1) * 2 ^ j ≤ 16777216) ∧ Hid (bitsD t n j = bitsD s 0 wide) ∧ Hid t.Ready ∧ t.n + 4 * j ≤ 900000000000 ∧ Hid (Is wr d 120 .u32 t v) ∧ Hid (At d w wr)) (fun u _ _ => (intOf u).toNat)
  case atStart => exact ⟨wide, s, 0, h2, rfl, rfl, Int.le_refl _, Lib.hid (by have := pow24 h2; omega), rfl, R0, by omega, A, At.refl d w⟩
  case round =>
    clear A R0
    obtain ⟨j, t, n, hj, rfl, rfl, n0, HL, HN, R0, hkk, A, O⟩ := hrel
    have hd := A.out.blk.lt
    by_cases hz : 0 < j
    · obtain ⟨k, i, hk0, hk12, hji, hkm, hst⟩ := bits_more (n := n) R0.out hz hj
      have hp := pow12 hk12
      have HP := Lib.hid hp
      have hp8 : (2 : Int) ^ k ≤ 8192 := by omega
      have AR := Lib.hid (at_ready R0.out hp.1 hp8)
      have AM := Lib.hid (at_may R0.out hp.1 hp8)
      have AL := Lib.hid (at_le R0.out hp.1 hp8 (Int.le_refl _))
      have HSt := Lib.hid hst
      have ab := at_bd R0.out hp.1 hp8
      have hL : (n * 2 ^ k + atS t (2 ^ k) + 1) * 2 ^ i ≤ 16777216 ∧ n * 2 ^ k + atS t (2 ^ k) + 1 ≤ 16777216 := by
        have h1 := HL.out
        rw [hji, Nat.add_comm, Int.pow_add, ← Int.mul_assoc] at h1
        have hpi : (0 : Int) < 2 ^ i := Int.pow_pos (by omega)
        have h2 : (n + 1) * 2 ^ k = n * 2 ^ k + 2 ^ k := by rw [Int.add_mul, Int.one_mul]
        rw [h2] at h1
        have h3 : (n * 2 ^ k + atS t (2 ^ k) + 1) * 2 ^ i ≤ (n * 2 ^ k + 2 ^ k) * 2 ^ i := Int.mul_le_mul_of_nonneg_right (by omega) (by omega)
        have h4 : (n * 2 ^ k + atS t (2 ^ k) + 1) * 1 ≤ (n * 2 ^ k + atS t (2 ^ k) + 1) * 2 ^ i := Int.mul_le_mul_of_nonneg_left (by omega) (by have := Int.mul_nonneg n0 (show (0 : Int) ≤ 2 ^ k by omega); omega)
        omega
      have n1 : 0 ≤ n * 2 ^ k := Int.mul_nonneg n0 (by omega)
      have n2 : n * 2 ^ k < 16777216 := by omega
      have w2 : IntKind.u32.wrap (n * 2 ^ k) = n * 2 ^ k := Enc.wraps_u32 _ n1 (by omega)
      have w3 : bits .or .u32 (n * 2 ^ k) (atS t (2 ^ k)) = n * 2 ^ k + atS t (2 ^ k) := bits_join .u32 32 (by decide) Enc.wraps_u32 k _ _ n1 (Int.mul_emod_left _ _) (by omega) ab.1 (by omega) (by omega)
      have HLL := Lib.hid hL
      have HI : Hid (i < j ∧ i ≤ 24 ∧ t.n + 2 + 4 * i ≤ 900000000000) := Lib.hid (by omega)
      clear hst hL HL
      by_cases hc : 12 < j
      · obtain rfl : k = 12 := by omega
        have hji2 : (j : Int) - 12 = (i : Int) := by omega
        have z1 : (2 : Int) ^ 12 = 4096 := by decide
        rw [z1] at w2 w3 n1 n2 ab hp HP hp8 AR AM AL HSt HLL
        clear z1 hkm hji
        obtain ⟨x, hx⟩ : ∃ x, atS t 4096 = x := ⟨_, rfl⟩
        rw [hx] at w3 ab AR AM AL HSt HLL
        have HX := Lib.hid hx
        clear hx
        have CA := Lib.hid (at_calls A.out R0.out 4096 HP.out.1 (by have := HP.out.2; omega))
        rw [HX.out] at CA
        go_wp2_with fail
        refine CA.out.mono ?_
        rintro e1 w1 ⟨rfl, nq, rfl⟩
        have A1 := Lib.hid (A.out.drewN nq)
        have O1 := Lib.hid (O.out.drewN nq)
        have CT := Lib.hid (take_calls A1.out R0.out x 1 4096 AM.out AL.out (by omega))
        unfold Mdl.part at CT
        clear A O CA
        go_wp2_with fail
        refine CT.out.mono ?_
        rintro e2 w2 ⟨rfl, a2, o2⟩
        have A2 := Lib.hid a2
        have O2 := Lib.hid (O1.out.trans o2)
        clear a2 o2 A1 O1 CT
        go_wp2_with fail
        go_roundw
        case rel => exact ⟨i, takeS t x 1 4096, n * 4096 + x, HI.out.2.1, rfl, rfl, by omega, HLL.out.1, HSt.out.symm.trans HN.out, AR.out.1, by have := AR.out.2.2.2; have := HI.out.2.2; omega, A2, O2⟩
        case measure => simp [intOf]; exact HI.out.1
      · obtain rfl : k = j := by omega
        obtain rfl : i = 0 := by omega
        have m1 : min (k : Int) 12 = (k : Int) := by omega
        have m2 : mn (k : Int) 12 = (k : Int) := by unfold mn; omega
        have m3 : (if (12 : Int) < (k : Int) then (12 : Int) else (k : Int)) = (k : Int) := by omega
        have nm : min k 32 = k := by omega
        have w1 : IntKind.u32.wrap (2 ^ k) = 2 ^ k := Enc.wraps_u32 _ (by omega) (by omega)
        have k4 : ¬ ((k : Int) < 0) := by omega
        have k5 : decide ((k : Int) < 0) = false := decide_eq_false k4
        clear hkm hji
        obtain ⟨x, hx⟩ : ∃ x, atS t (2 ^ k) = x := ⟨_, rfl⟩
        rw [hx] at w3 ab AR AM AL HSt HLL
        have HX := Lib.hid hx
        clear hx
        have CA := Lib.hid (at_calls A.out R0.out (2 ^ k) HP.out.1 (by have := HP.out.2; omega))
        rw [HX.out] at CA
        go_wp2_with fail
        refine CA.out.mono ?_
        rintro e1 w1 ⟨rfl, nq, rfl⟩
        have A1 := Lib.hid (A.out.drewN nq)
        have O1 := Lib.hid (O.out.drewN nq)
        have CT := Lib.hid (take_calls A1.out R0.out x 1 (2 ^ k) AM.out AL.out (by omega))
        unfold Mdl.part at CT
        clear A O CA
        go_wp2_with fail
        refine CT.out.mono ?_
        rintro e2 w2 ⟨rfl, a2, o2⟩
        have A2 := Lib.hid a2
        have O2 := Lib.hid (O1.out.trans o2)
        clear a2 o2 A1 O1 CT
        go_wp2_with fail
        go_roundw
        case rel => exact ⟨0, takeS t x 1 (2 ^ k), n * (2 ^ k) + x, HI.out.2.1, rfl, rfl, by omega, HLL.out.1, HSt.out.symm.trans HN.out, AR.out.1, by have := AR.out.2.2.2; have := HI.out.2.2; omega, A2, O2⟩
        case measure => simp [intOf]; exact HI.out.1
    · obtain rfl : j = 0 := by omega
      rw [bits_nought] at HN
      have HF := Lib.hid HN.out.symm
      clear HN
      go_wp2
      go_ret2
      rw [HF.out]
      exact ⟨rfl, A.out, O.out⟩
theorem Bits_none (wide : Value) (w : World) : Calls Try.prog 37 #[.pointer none, wide] w fun en w' => en = .returned (.tuple #[.int .u32 0, .int .i64 1]) ∧ w' = w := by
  go_enter Try.func37, Try.ntmps37
  go_wp2
  go_ret2
  exact ⟨rfl, rfl⟩
theorem Bits_bad (d : Nat) (wide : Int) (hb : wide < 0 ∨ 24 < wide) (w : World) :
    Calls Try.prog 37 #[.pointer (some ⟨d, 0, none⟩), .int .i64 wide] w fun en w' => en = .returned (.tuple #[.int .u32 0, .int .i64 1]) ∧ w' = w := by
  by_cases h1 : wide < 0
  · clear hb
    go_enter Try.func37, Try.ntmps37
    go_wp2
    go_ret2
    exact ⟨rfl, rfl⟩
  have h2 : 24 < wide := by omega
  clear hb
  go_enter Try.func37, Try.ntmps37
  go_wp2
  go_ret2
  exact ⟨rfl, rfl⟩
end Go.Proofs.Ytlbjoflmfboeeaa.Deco

/-
  The walks of the program's encoder: Len, Bytes; no condition but those told.
-/
set_option linter.unusedVariables false
set_option linter.unusedSimpArgs false
namespace Go.Proofs.Ytlbjoflmfboeeaa.Enc
open Go.RowKit Go.Proofs.Ytlbjoflmfboeeaa Go.Proofs.YtlbjoflmfboeeaaW.PrintWords

theorem Len_none (w : World) : Calls Try.prog 20 #[.pointer none] w fun en w' => en = .returned (.int .i64 0) ∧ w' = w := by
  go_enter Try.func20, Try.ntmps20
  go_wp2
  go_ret
  exact ⟨rfl, rfl⟩
theorem Len_some {w : World} {e : Nat} {s : St} {v : Value} (a : Is w e s v) (he : 1 ≤ s.he) (small : s.k ≤ 900000000) :
    Calls Try.prog 20 #[.pointer (some ⟨e, 0, none⟩)] w fun en w' => en = .returned (.int .i64 ((s.k + 4 : Nat) : Int)) ∧ Below w.heap.size w w' := by
  obtain ⟨A0, cap, hv, hcap⟩ := a.sl.form
  have d2 := a.blk.cell (i := 2) rfl
  have d4 := a.blk.cell (i := 4) rfl
  have d5 := a.blk.cell (i := 5) rfl
  obtain ⟨lo, sz, he', fi, out, be⟩ := s
  simp only [St.k] at *
  clear a
  subst hv
  generalize out.length = n at *
  cases be with
  | true =>
    simp only [if_true] at small ⊢
    go_enter Try.func20, Try.ntmps20
    go_wp2
    go_quiet (fail)
    go_wp2
    go_ret
    exact ⟨by simp; omega, pw_below_drewN (Below.refl _ _) _⟩
  | false =>
    simp only [Bool.false_eq_true, if_false] at small ⊢
    go_enter Try.func20, Try.ntmps20
    go_wp2
    go_quiet (fail)
    go_wp2
    go_ret
    exact ⟨by simp; omega, pw_below_drewN (Below.refl _ _) _⟩
/-- Without noughts behind. -/
def strip (l : List Int) : List Int := (l.reverse.dropWhile (fun x => x == 0)).reverse
theorem strip_nil : strip [] = [] := rfl
theorem strip_snoc (l : List Int) (x : Int) : strip (l ++ [x]) = if x = 0 then strip l else l ++ [x] := by
  unfold strip
  rw [List.reverse_append, List.reverse_singleton, List.singleton_append, List.dropWhile_cons]
  by_cases h : x = 0
  · subst h; simp
  · rw [if_neg h, if_neg (by simpa using h)]; simp
theorem strip_take (l : List Int) (k : Nat) (h : k < l.length) : strip (l.take (k + 1)) = if l[k] = 0 then strip (l.take k) else l.take (k + 1) := by
  rw [List.take_succ_eq_append_getElem h, strip_snoc]
def shifts : Nat → St → St
  | 0, s => s
  | n + 1, s => shifts n (shiftS s)
/-- The bytes of all parts so far. -/
def bytesS (s : St) : List Int := strip (shifts 5 s).out
theorem Bytes_none (w : World) : Calls Try.prog 21 #[.pointer none] w fun en w' => en = .returned (.slice none 0 0) ∧ w' = w := by
  go_enter Try.func21, Try.ntmps21
  go_wp2
  go_ret
  exact ⟨rfl, rfl⟩
set_option maxHeartbeats 2000000 in
set_option maxRecDepth 100000 in
theorem Bytes_some {w : World} {e : Nat} {s : St} {v : Value} (a : Is w e s v) (ok : s.Ready) (small : s.k ≤ 800000000) :
    Calls Try.prog 21 #[.pointer (some ⟨e, 0, none⟩)] w fun en w' => ∃ v', en = .returned v' ∧ Sl w' 5 .u8 v' (bytesS s) ∧ (∀ g, v'.ownBlock = some g → w.heap.size ≤ g) ∧ Below w.heap.size w w' := by
  obtain ⟨A0, cap, hv, hcap⟩ := a.sl.form
  subst hv
  have d0 := a.blk.cell (i := 0) rfl
  have d1 := a.blk.cell (i := 1) rfl
  have d2 := a.blk.cell (i := 2) rfl
  have d3 := a.blk.cell (i := 3) rfl
  have d4 := a.blk.cell (i := 4) rfl
  have d5 := a.blk.cell (i := 5) rfl
  have hle := a.blk.lt
  have A := Lib.hid a
  have R := Lib.hid ok
  have hl : s.out.length ≤ 800000000 := by have := ok.he0; have h2 := small; unfold St.k at h2; omega
  clear a ok
  go_enter Try.func21, Try.ntmps21
  go_wp2_with (first
    | (at_builtin; refine wpList_add (.tmp 9) (.tmp 13) 35 5 .u8 0 1 rfl rfl Try.underlying35 info_u8 (.slice (some ⟨w.heap.size + 1, 0, none⟩) 0 0) (.slice A0 s.out.length cap) [] s.out rfl rfl ?_ ?_ ?_ ?_ ?_
       · have hr : RowI ((w.alloc (.cells #[.int .u64 s.lo, .int .u32 s.sz, .int .i64 s.he, .int .u8 s.fi, .slice A0 s.out.length cap, .bool s.be] 110)).alloc (.cells #[] 5)) 5 .u8 (w.heap.size + 1) 0 [] :=
           ⟨#[], Blk.new_at _ _ (by simp), Nat.le_refl _, Nat.zero_le _, rfl, fun i h => by simp at h⟩
         exact Sl.row hr
       · exact Src.of_sl ((A.out.sl.alloc _).alloc _)
       · simp; omega
       · simp; omega
       intro v1 w1 ha
       rw [List.nil_append] at ha
       have b1 : Blk w1 w.heap.size 110 #[.int .u64 s.lo, .int .u32 s.sz, .int .i64 s.he, .int .u8 s.fi, .slice A0 s.out.length cap, .bool s.be] :=
         ((Blk.new w _ _).alloc _).of_same (ha.grown.block _ (by simp; omega) (by show some w.heap.size ≠ some (w.heap.size + 1); simp))
       obtain ⟨A1, c1, hv1, hc1⟩ := ha.sl.form
       subst hv1
       have x4 := b1.cell (i := 4) rfl
       have y4 := b1.free 4
       have B1 := Lib.hid b1
       have HA := Lib.hid ha
       clear ha b1))
  have hown : ∀ g, (Value.slice A1 s.out.length c1).ownBlock = some g → w.heap.size < g := by
    intro g hg
    rcases HA.out.at_ with h | h
    · rw [h] at hg; have e : w.heap.size + 1 = g := Option.some.inj hg; omega
    · rw [h] at hg; have e := Option.some.inj hg; simp at e; omega
  have hB : Below w.heap.size w w1 := ((((Below.refl _ _).alloc (Nat.le_refl _) _ : Below w.heap.size w _).alloc (by simp) _).trans (HA.out.only.below (B := w.heap.size) (by simp; omega) (fun i hi => by have e : w.heap.size + 1 = i := Option.some.inj hi; omega)))
  have I1 : Is (w1.setCell ⟨w.heap.size, 4, none⟩ (.slice A1 s.out.length c1)) w.heap.size s (.slice A1 s.out.length c1) :=
    ⟨B1.out.set 4 _, HA.out.sl.other (a := ⟨w.heap.size, 4, none⟩) (fun h => Nat.lt_irrefl _ (hown _ h)) _, fun h => Nat.lt_irrefl _ (hown _ h)⟩
  have hB2 : Below w.heap.size w (w1.setCell ⟨w.heap.size, 4, none⟩ (.slice A1 s.out.length c1)) := hB.setCell (p := ⟨w.heap.size, 4, none⟩) (Nat.le_refl _) _
  have I0 := Lib.hid I1
  have W0 := Lib.hid hB2
  have N0 := Lib.hid hown
  clear d0 d1 d2 d3 d4 d5 x4 y4 B1 HA hown hB I1 hB2 A
  go_loopw [16] (fun u wr => ∃ (j : Nat) (t : St) (v' : Value), j ≤ 5 ∧ u = .int .i64 (j : Int) ∧ Hid (shifts (5 - j) t = shifts 5 s) ∧ Hid t.Ok ∧ t.k = s.k + j ∧ Hid (Is wr w.heap.size t v') ∧ Hid (∀ g, v'.ownBlock = some g → w.heap.size < g) ∧ Hid (Below w.heap.size w wr)) (fun u _ => 5 - (intOf u).toNat)
  case atStart =>
    have r := R.out
    exact ⟨0, s, _, by omega, rfl, rfl, ⟨r.lo0, by have := r.sum; have := r.sz0; omega, by have := r.sz0; omega, r.sz1, r.he0, r.fi0, r.fi1, by omega⟩, rfl, I0, N0, W0⟩
  case round =>
    clear I0 W0 N0
    obtain ⟨j, t, v', hj, rfl, HN, T1, hk, I1, N1, W1⟩ := hrel
    by_cases hlt : j < 5
    · have SH := Lib.hid (shift_calls I1.out T1.out)
      go_wp2_with (first
        | (go_at_call 60; refine SH.out.mono ?_; rintro e w4 ⟨v4, rfl, a4, s4⟩; have A5 := Lib.hid a4; have S5 := Lib.hid s4; clear a4 s4))
      go_roundw
      case rel =>
        have hh := shiftS_he t T1.out.he0
        have hf := shiftS_fi t T1.out.fi0 T1.out.fi1
        have hl := shiftS_lo t
        have hz := shiftS_sz t
        have hk2 := shift_k t T1.out.he0
        have hwr := I1.out.blk.lt
        refine ⟨j + 1, shiftS t, v4, by omega, by push_cast; rfl, ?_, ⟨hl.1, by omega, by rw [hz]; exact T1.out.sz0, by rw [hz]; exact T1.out.sz1, hh, hf.1, hf.2, by omega⟩, by omega, A5, fun g hg => ?_, W1.out.trans (S5.out.only.below (B := w.heap.size) (by omega) (fun i hi => ?_))⟩
        · have e5 : 5 - j = (5 - (j + 1)) + 1 := by omega
          have := HN.out
          rw [e5] at this
          exact this
        · rcases S5.out.own g hg with h | h
          · exact N1.out g h
          · omega
        · rcases hi with hi | hi
          · omega
          · exact Nat.le_of_lt (N1.out i hi)
      case measure => simp [intOf]; omega
    · obtain rfl : j = 5 := by omega
      have HF : Hid (t.out = (shifts 5 s).out) := Lib.hid (congrArg St.out HN.out)
      have hlen : t.out.length ≤ 900000000 := by have := T1.out.he0; unfold St.k at hk; unfold St.k at small; omega
      have HFin : Hid (bytesS s = strip t.out) := Lib.hid (by unfold bytesS; rw [HF.out])
      have hsl := I1.out.sl
      obtain ⟨lo, sz, he, fi, out, be⟩ := t
      simp only at hlen hsl HFin
      rcases hsl with ⟨rfl, rfl⟩ | ⟨g, cp, rfl, hrow⟩
      · have x4 := I1.out.blk.cell (i := 4) rfl
        go_wp2
        refine wp_loop_rounds 1 ?_
        rw [rounds_succ]
        go_wp2
        go_ret
        exact ⟨_, rfl, by rw [HFin.out]; exact Sl.nil _ _ _, fun g hg => (by cases hg), W1.out⟩
      · have HRow := Lib.hid hrow
        have HBk := Lib.hid I1.out.blk
        have hg := N1.out g rfl
        simp only at HBk
        clear hrow I1 T1 HN HF
        obtain ⟨len, hlen2⟩ : ∃ len, out.length = len := ⟨_, rfl⟩
        have HL := Lib.hid hlen2
        have hcl := HRow.out.len.1
        rw [hlen2] at hlen HBk hcl
        clear hlen2 N1
        go_wp2
        go_loopg [] len (fun n wq => n ≤ len ∧ Hid (strip (out.take n) = bytesS s) ∧ Hid (Blk wq w.heap.size 110 #[.int .u64 lo, .int .u32 sz, .int .i64 he, .int .u8 fi, .slice (some ⟨g, 0, none⟩) n cp, .bool be]) ∧ Hid (RowI wq 5 .u8 g cp out) ∧ Hid (Below w.heap.size w wq))
        case atStart => exact ⟨Nat.le_refl _, by show _ = _; rw [List.take_of_length_le (by rw [HL.out]; omega)]; exact HFin.out.symm, HBk, HRow, W1⟩
        case round =>
          clear HBk HRow W1
          obtain ⟨hn, HS, HBk, HRow, W1⟩ := hrel
          have x4 := HBk.out.cell (i := 4) rfl
          have y4 := HBk.out.free 4
          by_cases h0 : 0 < gk
          · obtain ⟨n, rfl⟩ : ∃ n, gk = n + 1 := ⟨gk - 1, by omega⟩
            have c1 := HRow.out.cell (i := n) (by rw [HL.out]; omega)
            have HT := Lib.hid (strip_take out n (by rw [HL.out]; omega))
            have e1 : ((n + 1 : Nat) : Int) - 1 = (n : Int) := by omega
            generalize out[n]'(by rw [HL.out]; omega) = y at *
            by_cases hy : y = 0
            · have z : (y == 0) = true := by rw [beq_iff_eq]; exact hy
              have HT2 : Hid (strip (out.take (n + 1)) = strip (out.take n)) := Lib.hid (by rw [HT.out, if_pos hy])
              have ncp : n ≤ cp := by omega
              clear hy HT
              go_wp2
              go_roundg n
              case measure => omega
              case rel => exact ⟨by omega, HT2.out.symm.trans HS.out, HBk.out.set 4 _, HRow.out.other (a := ⟨w.heap.size, 4, none⟩) (by simp; omega) _, W1.out.setCell (p := ⟨w.heap.size, 4, none⟩) (Nat.le_refl _) _⟩
            · have z : (y == 0) = false := by rw [beq_eq_false_iff_ne]; exact hy
              have HT2 : Hid (strip (out.take (n + 1)) = out.take (n + 1)) := Lib.hid (by rw [HT.out, if_neg hy])
              clear hy HT
              go_wp2
              go_ret
              have hr := HRow.out.take (n + 1)
              have hs := Sl.row hr
              rw [List.length_take, Nat.min_eq_left (by rw [HL.out]; omega)] at hs
              exact ⟨_, rfl, by rw [← HS.out, HT2.out]; exact hs, fun g' hg' => (by have e : g = g' := Option.some.inj hg'; omega), W1.out⟩
          · obtain rfl : gk = 0 := by omega
            go_wp2
            go_ret
            have hr := HRow.out.take 0
            have hs := Sl.row hr
            rw [List.take_zero] at hs HS
            exact ⟨_, rfl, by rw [← HS.out]; exact hs, fun g' hg' => (by have e : g = g' := Option.some.inj hg'; omega), W1.out⟩
end Go.Proofs.Ytlbjoflmfboeeaa.Enc
