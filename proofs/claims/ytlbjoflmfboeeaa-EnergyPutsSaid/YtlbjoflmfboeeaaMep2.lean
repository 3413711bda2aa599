/- Texts of this session, merged. -/
import Derived.Test.YtlbjoflmfboeeaaMep1
import Derived.Laws.BitsLemmas
import Derived.RowKit
/-
  The program's encoder: what it holds, and the walks of New, shift, Put, Len; no condition but those told.
-/
set_option linter.unusedVariables false
set_option linter.unusedSimpArgs false
namespace Go.Proofs.Ytlbjoflmfboeeaa.Enc
open Go.RowKit Go.Proofs.Ytlbjoflmfboeeaa Go.Proofs.YtlbjoflmfboeeaaW.PrintWords

theorem wraps_u64 (n : Int) (h₀ : 0 ≤ n) (h₁ : n < 2 ^ 64) : IntKind.u64.wrap n = n := by
  unfold IntKind.wrap
  simp only [IntKind.bits, IntKind.signed]
  simp
  omega
theorem wraps_u32 (n : Int) (h₀ : 0 ≤ n) (h₁ : n < 2 ^ 32) : IntKind.u32.wrap n = n := by rw [IntKind.wrap_u32]; omega
theorem u64_low24 (x : Int) (h₀ : 0 ≤ x) (h₁ : x < 18446744073709551616) : bits .and .u64 x 16777215 = x % 16777216 := bits_mask .u64 64 (by decide) wraps_u64 24 (by decide) x h₀ h₁
/-- What an encoder holds. -/
structure St where
  lo : Int
  sz : Int
  he : Nat
  fi : Int
  out : List Int
  be : Bool
def over (s : St) : Int := s.lo / 4294967296
def flush (s : St) : List Int := (if s.be = true then s.out ++ [(s.fi + over s) % 256] else s.out) ++ List.replicate (s.he - 1) ((255 + over s) % 256)
def shiftS (s : St) : St :=
  if s.lo < 4278190080 ∨ 4294967296 ≤ s.lo then ⟨s.lo % 16777216 * 256, s.sz, 1, s.lo / 16777216 % 256, flush s, true⟩
  else ⟨s.lo % 16777216 * 256, s.sz, s.he + 1, s.fi, s.out, s.be⟩
/-- How many bytes there are, but for the last four. -/
def St.k (s : St) : Nat := s.out.length + s.he - 1 + (if s.be = true then 1 else 0)
structure St.Ok (s : St) : Prop where
  lo0 : 0 ≤ s.lo
  lo1 : s.lo < 8589934592
  sz0 : 0 ≤ s.sz
  sz1 : s.sz < 4294967296
  he0 : 1 ≤ s.he
  fi0 : 0 ≤ s.fi
  fi1 : s.fi < 256
  small : s.k ≤ 1000000000
theorem flush_len (s : St) (h : 1 ≤ s.he) : (flush s).length = s.k := by
  unfold flush St.k
  rw [List.length_append, List.length_replicate]
  split <;> simp_all <;> omega
theorem shift_k (s : St) (h : 1 ≤ s.he) : (shiftS s).k = s.k + 1 := by
  unfold shiftS
  split
  · have := flush_len s h
    unfold St.k at this ⊢
    simp at this ⊢
    omega
  · unfold St.k
    simp only
    omega
/-- The program's encoder: block m. -/
structure Is (w : World) (m : Nat) (s : St) (v : Value) : Prop where
  blk : Blk w m 110 #[.int .u64 s.lo, .int .u32 s.sz, .int .i64 s.he, .int .u8 s.fi, v, .bool s.be]
  sl : Sl w 5 .u8 v s.out
  ne : v.ownBlock ≠ some m
/-- What an encoder's step turns. -/
structure Step (m : Nat) (v v' : Value) (w w' : World) : Prop where
  only : Only (fun k => k = m ∨ v.ownBlock = some k) w w'
  own : ∀ g, v'.ownBlock = some g → v.ownBlock = some g ∨ w.heap.size ≤ g
section
variable {m : Nat} {v v' v'' : Value} {w w' w'' : World} {s : St}
theorem Step.refl (m : Nat) (v : Value) (w : World) : Step m v v w w := ⟨Only.refl _ _, fun _ h => .inl h⟩
theorem Step.trans (a : Step m v v' w w') (b : Step m v' v'' w' w'') : Step m v v'' w w'' := by
  refine ⟨a.only.then b.only fun i hi => ?_, fun g hg => ?_⟩
  · rcases hi with hi | hi
    · exact .inl (.inl hi)
    · rcases a.own i hi with h | h
      · exact .inl (.inr h)
      · exact .inr h
  · rcases b.own g hg with h | h
    · exact a.own g h
    · exact .inr (Nat.le_trans a.only.size h)
theorem Step.drew (a : Step m v v' w w') : Step m v v' w w'.drew := ⟨a.only.drew, a.own⟩
theorem Step.set (a : Step m v v' w w') (i : Nat) (u : Value) : Step m v v' w (w'.setCell ⟨m, i, none⟩ u) := ⟨a.only.set (p := ⟨m, i, none⟩) (.inl (.inl rfl)) u, a.own⟩
theorem Step.below (a : Step m v v' w w') (b : Below w'.heap.size w' w'') : Step m v v' w w'' :=
  ⟨a.only.then (Only.of_below b : Only (fun _ => False) _ _) fun _ h => h.elim, a.own⟩
theorem Is.only {S : Nat → Prop} (a : Is w m s v) (o : Only S w w') (h1 : ¬ S m) (h2 : ∀ g, v.ownBlock = some g → ¬ S g) : Is w' m s v :=
  ⟨a.blk.of_same (o.block m a.blk.lt h1), a.sl.only o h2, a.ne⟩
theorem Is.below (a : Is w m s v) (b : Below w.heap.size w w') : Is w' m s v := a.only (Only.of_below b : Only (fun _ => False) _ _) (fun h => h) (fun _ _ h => h)
end
theorem info_u8 : (Try.prog.info? 5).map (fun i => (i.zero, i.size, i.bytes)) = some (some (.int .u8 0), 1, 1) := by kernel_rfl
/-- None yet. -/
def fresh : St := ⟨0, 4294967295, 1, 0, [], false⟩
theorem New_calls (w : World) : Calls Try.prog 22 #[] w fun e w' => e = .returned (.pointer (some ⟨w.heap.size, 0, none⟩)) ∧ Is w' w.heap.size fresh (.slice none 0 0) ∧ Below w.heap.size w w' := by
  go_enter Try.func22, Try.ntmps22
  go_wp2
  go_ret
  exact ⟨rfl, ⟨Blk.new _ _ _, Sl.nil _ _ _, fun h => by cases h⟩, ((Below.refl _ _).alloc (Nat.le_refl _) _ : Below _ _ _)⟩
set_option maxHeartbeats 2000000 in
set_option maxRecDepth 100000 in
theorem shift_calm {w : World} {m : Nat} {s : St} {v : Value} (a : Is w m s v) (ok : s.Ok) (hc : ¬ (s.lo < 4278190080 ∨ 4294967296 ≤ s.lo)) :
    Calls Try.prog 60 #[.pointer (some ⟨m, 0, none⟩)] w fun e w' => ∃ v', e = .returned (.tuple #[]) ∧ Is w' m (shiftS s) v' ∧ Step m v v' w w' := by
  have d0 := a.blk.cell (i := 0) rfl
  have d2 := a.blk.cell (i := 2) rfl
  have f0 := a.blk.free 0
  have f2 := a.blk.free 2
  have A := Lib.hid a
  obtain ⟨l0, l1, s0, s1, h0, i0, i1, sm⟩ := ok
  obtain ⟨lo, sz, he, fi, out, be⟩ := s
  simp only [St.k] at *
  have hm := u64_low24 lo l0 (by omega)
  have c1 : ¬ lo < 4278190080 := fun h => hc (.inl h)
  have c2 : ¬ 4294967296 ≤ lo := fun h => hc (.inr h)
  have HS : Hid (shiftS ⟨lo, sz, he, fi, out, be⟩ = ⟨lo % 16777216 * 256, sz, he + 1, fi, out, be⟩) := Lib.hid (by unfold shiftS; rw [if_neg hc])
  clear a hc
  go_enter Try.func60, Try.ntmps60
  go_wp2
  rw [HS.out]
  have e2 : ((he + 1 : Nat) : Int) = (he : Int) + 1 := by omega
  refine bodyPost_end (results_none rfl _ _ _) rfl ⟨rfl, v, ⟨?_, (A.out.sl.other (a := ⟨m, 2, none⟩) A.out.ne _).other (a := ⟨m, 0, none⟩) A.out.ne _, A.out.ne⟩, ((Step.refl m v w).set 2 _).set 0 _⟩
  rw [e2]
  exact (A.out.blk.set 2 (.int .i64 ((he : Int) + 1))).set 0 (.int .u64 (lo % 16777216 * 256))
/-- Where bytes are appended: the loop. -/
def Rl (w w0 : World) (m : Nat) (lo sz he fi : Int) (be : Bool) (v0 : Value) (xs : List Int) (v : Value) : Prop :=
  Blk w m 110 #[.int .u64 lo, .int .u32 sz, .int .i64 he, .int .u8 fi, v, .bool be] ∧ Sl w 5 .u8 v xs ∧ v.ownBlock ≠ some m ∧ Step m v0 v w0 w
theorem Rl.push {w w0 w1 : World} {m : Nat} {lo sz he fi : Int} {be : Bool} {v0 v : Value} {xs : List Int} (h : Rl w w0 m lo sz he fi be v0 xs v) {y : Int} {g cap : Nat} {o : Obj} (hp : Pushed (w.alloc o) w1 5 .u8 v g cap (xs ++ [y]) (w.heap.size + 1)) {n : Nat} (hn : xs.length = n) :
    Blk w1 m 110 #[.int .u64 lo, .int .u32 sz, .int .i64 he, .int .u8 fi, v, .bool be] ∧ Rl (w1.setCell ⟨m, 4, none⟩ (.slice (some ⟨g, 0, none⟩) (n + 1) cap)) w0 m lo sz he fi be v0 (xs ++ [y]) (.slice (some ⟨g, 0, none⟩) (n + 1) cap) := by
  obtain ⟨h1, h2, h3, h4⟩ := h
  have hml := h1.lt
  have b1 : Blk w1 m 110 #[.int .u64 lo, .int .u32 sz, .int .i64 he, .int .u8 fi, v, .bool be] := (h1.alloc o).of_same (hp.block (by simp; omega) h3)
  have hgm : g ≠ m := by
    rintro rfl
    rcases hp.at_ with h | h
    · exact h3 h
    · omega
  refine ⟨b1, b1.set 4 _, ?_, fun e => hgm (Option.some.inj e), ?_⟩
  · have := Sl.row (hp.row.other (a := ⟨m, 4, none⟩) hgm (.slice (some ⟨g, 0, none⟩) (n + 1) cap))
    have hl : (xs ++ [y]).length = n + 1 := by simp [hn]
    rw [hl] at this
    exact this
  · have s1 : Step m v (.slice (some ⟨g, 0, none⟩) (n + 1) cap) w (w1.setCell ⟨m, 4, none⟩ (.slice (some ⟨g, 0, none⟩) (n + 1) cap)) := by
      refine ⟨(((Only.refl _ w).alloc o).then hp.only (fun i hi => .inl (.inr hi))).set (p := ⟨m, 4, none⟩) (.inl (.inl rfl)) _, fun g' hg' => ?_⟩
      have e : g = g' := Option.some.inj hg'
      subst e
      rcases hp.at_ with h | h
      · exact .inl h
      · exact .inr (by omega)
    exact h4.trans s1
theorem Rl.drew {w w0 : World} {m : Nat} {lo sz he fi : Int} {be : Bool} {v0 v : Value} {xs : List Int} (h : Rl w w0 m lo sz he fi be v0 xs v) : Rl w.drew w0 m lo sz he fi be v0 xs v := ⟨h.1, h.2.1, h.2.2.1, h.2.2.2.drew⟩
theorem Rl.he {w w0 : World} {m : Nat} {lo sz he fi : Int} {be : Bool} {v0 v : Value} {xs : List Int} (h : Rl w w0 m lo sz he fi be v0 xs v) (he' : Int) : Rl (w.setCell ⟨m, 2, none⟩ (.int .i64 he')) w0 m lo sz he' fi be v0 xs v :=
  ⟨h.1.set 2 _, h.2.1.other (a := ⟨m, 2, none⟩) h.2.2.1 _, h.2.2.1, h.2.2.2.set 2 _⟩
set_option maxHeartbeats 8000000 in
set_option maxRecDepth 100000 in
theorem shift_loud {w : World} {m : Nat} {s : St} {v : Value} (a : Is w m s v) (ok : s.Ok) (hc : s.lo < 4278190080 ∨ 4294967296 ≤ s.lo) :
    Calls Try.prog 60 #[.pointer (some ⟨m, 0, none⟩)] w fun e w' => ∃ v', e = .returned (.tuple #[]) ∧ Is w' m (shiftS s) v' ∧ Step m v v' w w' := by
  have d0 := a.blk.cell (i := 0) rfl
  have d3 := a.blk.cell (i := 3) rfl
  have d4 := a.blk.cell (i := 4) rfl
  have d5 := a.blk.cell (i := 5) rfl
  have f4 := a.blk.free 4
  have A := Lib.hid a
  obtain ⟨l0, l1, s0, s1, h0, i0, i1, sm⟩ := ok
  obtain ⟨lo, sz, he, fi, out, be⟩ := s
  simp only [St.k] at *
  have hm := u64_low24 lo l0 (by omega)
  have HS : Hid (shiftS ⟨lo, sz, he, fi, out, be⟩ = ⟨lo % 16777216 * 256, sz, 1, lo / 16777216 % 256, flush ⟨lo, sz, he, fi, out, be⟩, true⟩) := Lib.hid (by unfold shiftS; rw [if_pos hc])
  have HR : Hid (Rl w w m lo sz he fi be v out v) := Lib.hid ⟨A.out.blk, A.out.sl, A.out.ne, Step.refl m v w⟩
  have hov : 0 ≤ lo / 4294967296 ∧ lo / 4294967296 ≤ 1 := by omega
  have hml := a.blk.lt
  have ew : IntKind.u8.wrap (fi + lo / 4294967296) = (fi + lo / 4294967296) % 256 := IntKind.wrap_u8 _
  obtain ⟨n, hn⟩ : ∃ n, out.length = n := ⟨_, rfl⟩
  have HN := Lib.hid hn
  rw [hn] at sm
  clear a hn
  have hc2 : lo < 4278190080 ∨ (¬ lo < 4278190080 ∧ 4294967296 ≤ lo) := by omega
  clear hc
  obtain ⟨pre, hpre⟩ : ∃ pre, pre = (if be = true then out ++ [(fi + lo / 4294967296) % 256] else out) := ⟨_, rfl⟩
  have hpl : pre.length ≤ n + 1 := by rw [hpre]; have := HN.out; split <;> simp <;> omega
  have hfl : flush ⟨lo, sz, he, fi, out, be⟩ = pre ++ List.replicate (he - 1) ((255 + lo / 4294967296) % 256) := by rw [hpre]; rfl
  have HPre := Lib.hid hpre
  have HFl := Lib.hid hfl
  clear hpre hfl
  rcases hc2 with hc | ⟨hc0, hc⟩
  all_goals
    go_enter Try.func60, Try.ntmps60
    go_upto_if 24 with (fail)
    go_cut [] (fun wc => ∃ v1, Hid (Rl wc w m lo sz he fi be v pre v1))
    case first =>
      cases be with
      | true =>
        have hp2 : pre = out ++ [(fi + lo / 4294967296) % 256] := by rw [HPre.out]; rfl
        clear HPre HFl hpl
        subst hp2
        go_wp2
        go_region_law ((refine step_push _ _ _ 5 .u8 0 1 (by rfl) (by rfl) Try.underlying35 info_u8 v out n ((fi + lo / 4294967296) % 256) ⟨w.heap.size, 0, none⟩ (w.heap.size + 1) (by rfl) (by rfl) ?_ HN.out ?_ ?_ ?_ ?_ ?_
                        · exact (A.out.sl.alloc _).drew
                        · exact (Blk.new w _ _).cell (i := 0) rfl
                        · simp
                        · omega
                        · omega
                        intro g cap w1 hp
                        obtain ⟨b1, r1⟩ := HR.out.drew.push hp HN.out
                        have x4 := b1.free 4
                        have x4' := b1.cell (i := 4) rfl
                        have HR1 := Lib.hid r1
                        clear hp r1))
        all_goals (go_wp2; go_meet)
        all_goals exact ⟨_, HR1⟩
      | false =>
        have hp2 : pre = out := by rw [HPre.out]; rfl
        clear HPre HFl hpl
        subst hp2
        go_wp2
        go_meet
        exact ⟨_, HR⟩
    case rest =>
      clear d0 d3 d4 d5 f4 A HR ew hc
      try clear hc0
      obtain ⟨v1, HR⟩ := hcut
      go_wp2
      go_loopg [] (he - 1) (fun j wr => ∃ (i : Nat) (v2 : Value), i + j + 1 = he ∧ Hid (Rl wr w m lo sz ((j : Int) + 1) fi be v (pre ++ List.replicate i ((255 + lo / 4294967296) % 256)) v2))
      case atStart => exact ⟨0, v1, by omega, by rw [show ((he - 1 : Nat) : Int) + 1 = he from by omega, List.replicate_zero, List.append_nil]; exact HR⟩
      case round =>
        clear HR
        obtain ⟨i, v2, hij, HR⟩ := hrel
        have e2 := HR.out.1.cell (i := 2) rfl
        have e4 := HR.out.1.cell (i := 4) rfl
        have g2 := HR.out.1.free 2
        have hml := HR.out.1.lt
        by_cases hj : 0 < gk
        · have hlen : (pre ++ List.replicate i ((255 + lo / 4294967296) % 256)).length = pre.length + i := by simp
          have ew : IntKind.u8.wrap (255 + lo / 4294967296) = (255 + lo / 4294967296) % 256 := IntKind.wrap_u8 _
          go_wp2_with (first
            | (at_builtin; refine wpList_push (.tmp 56) (.tmp 59) 35 5 .u8 0 1 rfl rfl Try.underlying35 info_u8 v2 (pre ++ List.replicate i ((255 + lo / 4294967296) % 256)) (pre.length + i) ((255 + lo / 4294967296) % 256) ⟨wr.heap.size, 0, none⟩ (wr.heap.size + 1) rfl rfl (HR.out.2.1.alloc _) hlen ((Blk.new wr _ _).cell rfl) (by simp) (by omega) (by omega) ?_
               intro g cap w1 hp
               obtain ⟨b1, r1⟩ := HR.out.push hp hlen
               have x4 := b1.free 4
               have x4' := b1.cell (i := 4) rfl
               have x2 := r1.1.cell (i := 2) rfl
               have y2 := r1.1.free 2
               have HR1 := Lib.hid r1
               clear hp r1 e2 e4 g2))
          go_roundg (gk - 1)
          case measure => omega
          case rel =>
            refine ⟨i + 1, .slice (some ⟨g, 0, none⟩) (pre.length + i + 1) cap, by omega, ?_⟩
            have := HR1.out.he (gk : Int)
            rw [List.append_assoc, List.replicate_append_replicate.symm] at *
            rw [show ((gk - 1 : Nat) : Int) + 1 = gk from by omega]
            exact this
        · obtain rfl : gk = 0 := by omega
          obtain rfl : i = he - 1 := by omega
          have e0 := HR.out.1.cell (i := 0) rfl
          have g3 := HR.out.1.free 3
          have e3 := HR.out.1.cell (i := 3) rfl
          have e5 := HR.out.1.cell (i := 5) rfl
          have ew : IntKind.u8.wrap (lo / 16777216) = lo / 16777216 % 256 := IntKind.wrap_u8 _
          have g5 := HR.out.1.free 5
          have g0 := HR.out.1.free 0
          go_wp2
          rw [HS.out, HFl.out]
          have hb := (((((HR.out.1.set 2 (.int .i64 0)).set 3 (.int .u8 (lo / 16777216 % 256))).set 5 (.bool true)).set 2 (.int .i64 1))).set 0 (.int .u64 (lo % 16777216 * 256))
          have hs := (((((HR.out.2.1.other (a := ⟨m, 2, none⟩) HR.out.2.2.1 (.int .i64 0)).other (a := ⟨m, 3, none⟩) HR.out.2.2.1 (.int .u8 (lo / 16777216 % 256))).other (a := ⟨m, 5, none⟩) HR.out.2.2.1 (.bool true)).other (a := ⟨m, 2, none⟩) HR.out.2.2.1 (.int .i64 1))).other (a := ⟨m, 0, none⟩) HR.out.2.2.1 (.int .u64 (lo % 16777216 * 256))
          have ht := (((((HR.out.2.2.2.set 2 (.int .i64 0)).set 3 (.int .u8 (lo / 16777216 % 256))).set 5 (.bool true)).set 2 (.int .i64 1))).set 0 (.int .u64 (lo % 16777216 * 256))
          have hfin : Is (((((wr.setCell ⟨m, 2, none⟩ (.int .i64 0)).setCell ⟨m, 3, none⟩ (.int .u8 (lo / 16777216 % 256))).setCell ⟨m, 5, none⟩ (.bool true)).setCell ⟨m, 2, none⟩ (.int .i64 1)).setCell ⟨m, 0, none⟩ (.int .u64 (lo % 16777216 * 256))) m ⟨lo % 16777216 * 256, sz, 1, lo / 16777216 % 256, pre ++ List.replicate (he - 1) ((255 + lo / 4294967296) % 256), true⟩ v2 := ⟨hb, hs, HR.out.2.2.1⟩
          exact bodyPost_end (results_none rfl _ _ _) rfl ⟨v2, rfl, hfin, ht⟩
theorem shift_calls {w : World} {m : Nat} {s : St} {v : Value} (a : Is w m s v) (ok : s.Ok) :
    Calls Try.prog 60 #[.pointer (some ⟨m, 0, none⟩)] w fun e w' => ∃ v', e = .returned (.tuple #[]) ∧ Is w' m (shiftS s) v' ∧ Step m v v' w w' := by
  by_cases hc : s.lo < 4278190080 ∨ 4294967296 ≤ s.lo
  · exact shift_loud a ok hc
  · exact shift_calm a ok hc
end Go.Proofs.Ytlbjoflmfboeeaa.Enc

/-
  The walks of the program's encoder: Put, Symbol, Bits, Len; no condition but those told.
-/
set_option linter.unusedVariables false
set_option linter.unusedSimpArgs false
namespace Go.Proofs.Ytlbjoflmfboeeaa.Enc
open Go.RowKit Go.Proofs.Ytlbjoflmfboeeaa Go.Proofs.YtlbjoflmfboeeaaW.PrintWords

def step1 (s : St) : St := shiftS ⟨s.lo, s.sz * 256, s.he, s.fi, s.out, s.be⟩
def norm : Nat → St → St
  | 0, s => s
  | n + 1, s => if s.sz < 16777216 then norm n (step1 s) else s
def putS (s : St) (lo ow al : Int) : St := norm 2 ⟨s.lo + s.sz / al * lo, s.sz / al * ow, s.he, s.fi, s.out, s.be⟩
/-- An encoder as it is between parts. -/
structure St.Ready (s : St) : Prop where
  lo0 : 0 ≤ s.lo
  sum : s.lo + s.sz < 8589934592
  sz0 : 16777216 ≤ s.sz
  sz1 : s.sz < 4294967296
  he0 : 1 ≤ s.he
  fi0 : 0 ≤ s.fi
  fi1 : s.fi < 256
theorem shiftS_lo (s : St) : 0 ≤ (shiftS s).lo ∧ (shiftS s).lo < 4294967296 := by
  unfold shiftS; split <;> (simp only; omega)
theorem shiftS_sz (s : St) : (shiftS s).sz = s.sz := by unfold shiftS; split <;> rfl
theorem shiftS_he (s : St) (h : 1 ≤ s.he) : 1 ≤ (shiftS s).he := by unfold shiftS; split <;> (simp only; omega)
theorem shiftS_fi (s : St) (h0 : 0 ≤ s.fi) (h1 : s.fi < 256) : 0 ≤ (shiftS s).fi ∧ (shiftS s).fi < 256 := by unfold shiftS; split <;> (simp only; omega)
theorem mul_bd (e x a sz : Int) (he : e = sz / a) (ha : 0 < a) (hx0 : 0 ≤ x) (hxa : x ≤ a) (hs : 0 ≤ sz) : 0 ≤ e * x ∧ e * x ≤ sz := by
  subst he
  have h1 : 0 ≤ sz / a := Int.ediv_nonneg hs (by omega)
  refine ⟨Int.mul_nonneg h1 hx0, ?_⟩
  have h2 : sz / a * x ≤ sz / a * a := Int.mul_le_mul_of_nonneg_left hxa h1
  have h3 : sz / a * a ≤ sz := Int.ediv_mul_le sz (by omega)
  omega
theorem each_lo (al sz : Int) (h1 : 1 ≤ al) (h2 : al ≤ 8192) (h3 : 16777216 ≤ sz) : 2048 ≤ sz / al := by
  rw [Int.le_ediv_iff_mul_le (by omega)]
  omega
def lw : Nat → Int
  | 0 => 16777216
  | 1 => 65536
  | _ => 256
/-- A part that may be. -/
def May (lo ow al : Int) : Prop := 0 ≤ lo ∧ 1 ≤ ow ∧ lo + ow ≤ al ∧ al ≤ 8192
theorem norm_ready (n : Nat) (hn : n ≤ 2) : ∀ (t : St), 0 ≤ t.lo → t.lo + t.sz < 8589934592 → lw n ≤ t.sz → t.sz < 4294967296 → 1 ≤ t.he → 0 ≤ t.fi → t.fi < 256 → (norm n t).Ready ∧ t.k ≤ (norm n t).k ∧ (norm n t).k ≤ t.k + n := by
  induction n with
  | zero =>
    intro t h1 h2 h3 h4 h5 h6 h7
    exact ⟨⟨h1, h2, h3, h4, h5, h6, h7⟩, Nat.le_refl _, Nat.le_refl _⟩
  | succ n ih =>
    intro t h1 h2 h3 h4 h5 h6 h7
    unfold norm
    by_cases hc : t.sz < 16777216
    · rw [if_pos hc]
      have hlw2 : lw n ≤ t.sz * 256 := by
        rcases (show n = 0 ∨ n = 1 by omega) with h | h
        · subst h; have : (65536 : Int) ≤ t.sz := h3; show (16777216 : Int) ≤ _; omega
        · subst h; have : (256 : Int) ≤ t.sz := h3; show (65536 : Int) ≤ _; omega
      have hs1 : step1 t = shiftS ⟨t.lo, t.sz * 256, t.he, t.fi, t.out, t.be⟩ := rfl
      have hl := shiftS_lo ⟨t.lo, t.sz * 256, t.he, t.fi, t.out, t.be⟩
      have hz := shiftS_sz ⟨t.lo, t.sz * 256, t.he, t.fi, t.out, t.be⟩
      have hh := shiftS_he ⟨t.lo, t.sz * 256, t.he, t.fi, t.out, t.be⟩ h5
      have hf := shiftS_fi ⟨t.lo, t.sz * 256, t.he, t.fi, t.out, t.be⟩ h6 h7
      have hk := shift_k ⟨t.lo, t.sz * 256, t.he, t.fi, t.out, t.be⟩ h5
      have hk3 : St.k ⟨t.lo, t.sz * 256, t.he, t.fi, t.out, t.be⟩ = t.k := rfl
      rw [← hs1] at hl hz hh hf hk
      simp only at hz
      obtain ⟨r1, r2, r3⟩ := ih (by omega) (step1 t) hl.1 (by omega) (by omega) (by omega) hh hf.1 hf.2
      exact ⟨r1, by omega, by omega⟩
    · rw [if_neg hc]
      exact ⟨⟨h1, h2, by omega, h4, h5, h6, h7⟩, Nat.le_refl _, by omega⟩
theorem put_ready {s : St} (ok : s.Ready) {lo ow al : Int} (may : May lo ow al) : (putS s lo ow al).Ready ∧ s.k ≤ (putS s lo ow al).k ∧ (putS s lo ow al).k ≤ s.k + 2 := by
  obtain ⟨p0, p1, p2, p3⟩ := may
  obtain ⟨l0, l1, s0, s1, h0, i0, i1⟩ := ok
  obtain ⟨each, hE⟩ : ∃ each, each = s.sz / al := ⟨_, rfl⟩
  have b3 := each_lo al s.sz (by omega) p3 s0
  have b1 := mul_bd each lo al s.sz hE (by omega) p0 (by omega) (by omega)
  have b2 := mul_bd each ow al s.sz hE (by omega) (by omega) (by omega) (by omega)
  have b6 := mul_bd each (lo + ow) al s.sz hE (by omega) (by omega) (by omega) (by omega)
  rw [Int.mul_add] at b6
  have b4 : each * 1 ≤ each * ow := Int.mul_le_mul_of_nonneg_left p1 (by omega)
  rw [Int.mul_one] at b4
  unfold putS
  rw [← hE] at b3 ⊢
  exact norm_ready 2 (by omega) ⟨s.lo + each * lo, each * ow, s.he, s.fi, s.out, s.be⟩ (by simp only; omega) (by simp only; omega) (by show (256 : Int) ≤ each * ow; omega) (by simp only; omega) h0 i0 i1
set_option maxHeartbeats 4000000 in
set_option maxRecDepth 100000 in
theorem Put_yes {w : World} {m : Nat} {s : St} {v : Value} (a : Is w m s v) (ok : s.Ready) (small : s.k ≤ 900000000) (lo ow al : Int) (may : May lo ow al) :
    Calls Try.prog 17 #[.pointer (some ⟨m, 0, none⟩), Mdl.part lo ow al] w fun e w' => ∃ v', e = .returned (.int .i64 0) ∧ Is w' m (putS s lo ow al) v' ∧ Step m v v' w w' := by
  obtain ⟨p0, p1, p2, p3⟩ := may
  obtain ⟨each, hE⟩ : ∃ each, each = s.sz / al := ⟨_, rfl⟩
  obtain ⟨q, hq⟩ : ∃ q, q = each * lo := ⟨_, rfl⟩
  obtain ⟨r, hr⟩ : ∃ r, r = each * ow := ⟨_, rfl⟩
  have hm := a.blk.lt
  have b1 := mul_bd each lo al s.sz hE (by omega) p0 (by omega) (by have := ok.sz0; omega)
  have b2 := mul_bd each ow al s.sz hE (by omega) (by omega) (by omega) (by have := ok.sz0; omega)
  have b3 := each_lo al s.sz (by omega) p3 ok.sz0
  have b6 := mul_bd each (lo + ow) al s.sz hE (by omega) (by omega) (by omega) (by have := ok.sz0; omega)
  rw [Int.mul_add] at b6
  have b4 : each * 1 ≤ each * ow := Int.mul_le_mul_of_nonneg_left p1 (by omega)
  rw [← hE] at b3
  rw [← hq] at b1 b6
  rw [← hr] at b2 b4 b6
  rw [Int.mul_one] at b4
  have hput : putS s lo ow al = norm 2 ⟨s.lo + q, r, s.he, s.fi, s.out, s.be⟩ := by unfold putS; rw [hq, hr, hE]
  have HPut := Lib.hid hput
  have e1 : Int.tdiv s.sz al = each := by rw [hE, Int.tdiv_eq_ediv_of_nonneg (by have := ok.sz0; omega)]
  have e1' : s.sz / al = each := hE.symm
  have e2 : each * lo = q := hq.symm
  have e3 : each * ow = r := hr.symm
  obtain ⟨l0, l1, s0, s1, h0, i0, i1⟩ := ok
  have A := Lib.hid a
  obtain ⟨slo, sz, he, fi, out, be⟩ := s
  have d0 := a.blk.cell (i := 0) rfl
  have d1 := a.blk.cell (i := 1) rfl
  have f0 := a.blk.free 0
  have f1 := a.blk.free 1
  simp only at *
  have z1 : al ≠ 0 := by omega
  have z2 : (al == 0) = false := by rw [beq_eq_false_iff_ne]; omega
  have z3 : (ow == 0) = false := by rw [beq_eq_false_iff_ne]; omega
  have b5 : each ≤ sz := by rw [hE]; exact Int.ediv_le_self _ (by omega)
  have e4 : IntKind.u32.wrap each = each := wraps_u32 _ (by omega) (by omega)
  have e5 : IntKind.u64.wrap q = q := wraps_u64 _ (by omega) (by omega)
  have e6 : IntKind.u64.wrap (slo + q) = slo + q := wraps_u64 _ (by omega) (by omega)
  have e7 : IntKind.u32.wrap r = r := wraps_u32 _ (by omega) (by omega)
  have e8 : r % 4294967296 = r := by omega
  have e9 : IntKind.u64.wrap each = each := wraps_u64 _ (by omega) (by omega)
  have e10 : IntKind.u64.wrap lo = lo := wraps_u64 _ (by omega) (by omega)
  have y1 : decide (8192 < al) = false := decide_eq_false (by omega)
  have y2 : decide (al ≤ lo) = false := decide_eq_false (by omega)
  have y3 : decide (al - lo < ow) = false := decide_eq_false (by omega)
  clear hE hq hr a hput
  unfold Mdl.part
  go_enter Try.func17, Try.ntmps17
  go_wp2
  go_quiet (fail)
  have hB : Below w.heap.size w ((w.alloc (.cells #[.int .u32 lo, .int .u32 ow, .int .u32 al] 31)).drewN nq) := pw_below_drewN ((Below.refl _ _).alloc (Nat.le_refl _) _) nq
  have A2 := Lib.hid (A.out.below hB)
  have P2 : Hid (Blk ((w.alloc (.cells #[.int .u32 lo, .int .u32 ow, .int .u32 al] 31)).drewN nq) w.heap.size 31 #[.int .u32 lo, .int .u32 ow, .int .u32 al]) := (Blk.new w _ _).drewN nq
  have S2 := Lib.hid ((Step.refl m v w).below hB)
  go_wp2
  clear d0 d1 f0 f1 A hB
  generalize ((w.alloc (.cells #[.int .u32 lo, .int .u32 ow, .int .u32 al] 31)).drewN nq) = w2 at *
  have d0 := A2.out.blk.cell (i := 0) rfl
  have d1 := A2.out.blk.cell (i := 1) rfl
  have f0 := A2.out.blk.free 0
  have f1 := A2.out.blk.free 1
  have c0 := P2.out.cell (i := 0) rfl
  have c1 := P2.out.cell (i := 1) rfl
  have c2 := P2.out.cell (i := 2) rfl
  go_still_tail 13, (by kernel_rfl)
  go_wp2
  have t1 : St.Ok ⟨slo + q, r, he, fi, out, be⟩ := ⟨by simp only; omega, by simp only; omega, by simp only; omega, by simp only; omega, h0, i0, i1, by simp only [St.k] at small ⊢; omega⟩
  have T1 := Lib.hid t1
  have A3 : Hid (Is ((w2.setCell ⟨m, 0, none⟩ (.int .u64 (slo + q))).setCell ⟨m, 1, none⟩ (.int .u32 r)).drew m ⟨slo + q, r, he, fi, out, be⟩ v) :=
    Lib.hid ⟨((A2.out.blk.set 0 (.int .u64 (slo + q))).set 1 (.int .u32 r)).drew, ((A2.out.sl.other (a := ⟨m, 0, none⟩) A2.out.ne (.int .u64 (slo + q))).other (a := ⟨m, 1, none⟩) A2.out.ne (.int .u32 r)).drew, A2.out.ne⟩
  have S3 := Lib.hid (((S2.out.set 0 (.int .u64 (slo + q))).set 1 (.int .u32 r)).drew)
  have hk1 : St.k ⟨slo + q, r, he, fi, out, be⟩ ≤ 900000000 := by simp only [St.k] at small ⊢; omega
  clear d0 d1 f0 f1 c0 c1 c2 A2 P2 S2 e1 e1' e2 e3 e4 e5 e6 e7 e8 e9 e10 t1
  go_loopg [] 2 (fun j wr => ∃ (t : St) (v' : Value), j ≤ 2 ∧ lw j ≤ t.sz ∧ Hid t.Ok ∧ Hid (norm j t = putS ⟨slo, sz, he, fi, out, be⟩ lo ow al) ∧ t.k + j ≤ 900000002 ∧ Hid (Is wr m t v') ∧ Hid (Step m v v' w wr))
  case atStart => exact ⟨_, v, Nat.le_refl _, by show (256 : Int) ≤ r; omega, T1, HPut.out.symm, by omega, A3, S3⟩
  case round =>
    clear T1 A3 S3 HPut hk1 small
    obtain ⟨t, v', hj2, hlw, T1, HN, hkk, A3, S3⟩ := hrel
    have d1 := A3.out.blk.cell (i := 1) rfl
    have f1 := A3.out.blk.free 1
    have ts1 := T1.out.sz1
    have ts0 := T1.out.sz0
    by_cases hc : t.sz < 16777216
    · have hg : 0 < gk := by
        rcases Nat.eq_zero_or_pos gk with h | h
        · subst h; have : (16777216 : Int) ≤ t.sz := hlw; omega
        · exact h
      obtain ⟨j, rfl⟩ : ∃ j, gk = j + 1 := ⟨gk - 1, by omega⟩
      have t2 : St.Ok ⟨t.lo, t.sz * 256, t.he, t.fi, t.out, t.be⟩ := ⟨T1.out.lo0, T1.out.lo1, by simp only; omega, by simp only; omega, T1.out.he0, T1.out.fi0, T1.out.fi1, by have := hkk; simp only [St.k] at this ⊢; omega⟩
      have A4 : Hid (Is (wr.setCell ⟨m, 1, none⟩ (.int .u32 (t.sz * 256))) m ⟨t.lo, t.sz * 256, t.he, t.fi, t.out, t.be⟩ v') :=
        Lib.hid ⟨A3.out.blk.set 1 (.int .u32 (t.sz * 256)), A3.out.sl.other (a := ⟨m, 1, none⟩) A3.out.ne _, A3.out.ne⟩
      have SH := Lib.hid (shift_calls A4.out t2)
      have hstep : norm (j + 1) t = norm j (step1 t) := by show (if t.sz < 16777216 then norm j (step1 t) else t) = _; rw [if_pos hc]
      have HSt := Lib.hid hstep
      have hlw2 : lw j ≤ t.sz * 256 := by
        rcases (show j = 0 ∨ j = 1 by omega) with h | h
        · subst h; have : (65536 : Int) ≤ t.sz := hlw; show (16777216 : Int) ≤ _; omega
        · subst h; have : (256 : Int) ≤ t.sz := hlw; show (65536 : Int) ≤ _; omega
      have T2 := Lib.hid t2
      clear hstep t2 hlw
      obtain ⟨tsz, htz⟩ : ∃ tsz, t.sz = tsz := ⟨_, rfl⟩
      have HTz := Lib.hid htz
      rw [htz] at d1 ts1 ts0 hc hlw2 A4 SH T2
      clear htz
      go_wp2_with (go_at_call 60; refine SH.out.mono ?_; rintro e w4 ⟨v4, rfl, a4, s4⟩; have A5 := Lib.hid a4; have S5 := Lib.hid s4; clear a4 s4)
      go_roundg j
      case measure => omega
      case rel =>
        have hs1 : step1 t = shiftS ⟨t.lo, tsz * 256, t.he, t.fi, t.out, t.be⟩ := by unfold step1; rw [HTz.out]
        rw [hs1] at HSt
        have hh := shiftS_he ⟨t.lo, tsz * 256, t.he, t.fi, t.out, t.be⟩ T2.out.he0
        have hf := shiftS_fi ⟨t.lo, tsz * 256, t.he, t.fi, t.out, t.be⟩ T2.out.fi0 T2.out.fi1
        have hl := shiftS_lo ⟨t.lo, tsz * 256, t.he, t.fi, t.out, t.be⟩
        have hz := shiftS_sz ⟨t.lo, tsz * 256, t.he, t.fi, t.out, t.be⟩
        have hkk2 := shift_k ⟨t.lo, tsz * 256, t.he, t.fi, t.out, t.be⟩ T2.out.he0
        have hk3 : St.k ⟨t.lo, tsz * 256, t.he, t.fi, t.out, t.be⟩ = t.k := rfl
        exact ⟨_, v4, by omega, by rw [hz]; exact hlw2, ⟨hl.1, by omega, by rw [hz]; exact T2.out.sz0, by rw [hz]; exact T2.out.sz1, hh, hf.1, hf.2, by omega⟩, HSt.out.symm.trans HN.out, by omega, A5, (S3.out.set 1 _).trans S5.out⟩
    · have hF : norm gk t = t := by
        cases gk with
        | zero => rfl
        | succ j => show (if t.sz < 16777216 then norm j (step1 t) else t) = _; rw [if_neg hc]
      have HF : Hid (putS ⟨slo, sz, he, fi, out, be⟩ lo ow al = t) := Lib.hid (HN.out.symm.trans hF)
      clear hF HN
      go_wp2
      go_ret
      rw [HF.out]
      exact ⟨rfl, v', A3.out, S3.out⟩
theorem Put_none (p : Value) (x y z : Value) (h : p = .agg #[x, y, z]) (w : World) :
    Calls Try.prog 17 #[.pointer none, p] w fun e w' => e = .returned (.int .i64 1) ∧ Below w.heap.size w w' := by
  subst h
  go_enter Try.func17, Try.ntmps17
  go_wp2
  go_ret
  exact ⟨rfl, ((Below.refl _ _).alloc (Nat.le_refl _) _ : Below _ _ _)⟩
theorem Put_bad (m : Nat) (lo ow al : Int) (h : ¬ May lo ow al) (l0 : 0 ≤ lo) (o0 : 0 ≤ ow) (a0 : 0 ≤ al) (a1 : al < 4294967296) (w : World) :
    Calls Try.prog 17 #[.pointer (some ⟨m, 0, none⟩), Mdl.part lo ow al] w fun e w' => e = .returned (.int .i64 1) ∧ Below w.heap.size w w' := by
  unfold May at h
  unfold Mdl.part
  have hb : Below w.heap.size w (w.alloc (.cells #[.int .u32 lo, .int .u32 ow, .int .u32 al] 31)) := (Below.refl _ _).alloc (Nat.le_refl _) _
  have HB := Lib.hid hb
  clear hb
  by_cases h1 : al = 0
  · have z : (al == 0) = true := by rw [beq_iff_eq]; exact h1
    clear h h1
    go_enter Try.func17, Try.ntmps17
    go_wp2
    go_ret
    exact ⟨rfl, HB.out⟩
  have z1 : (al == 0) = false := by rw [beq_eq_false_iff_ne]; exact h1
  by_cases h2 : 8192 < al
  · clear h h1
    go_enter Try.func17, Try.ntmps17
    go_wp2
    go_ret
    exact ⟨rfl, HB.out⟩
  by_cases h3 : ow = 0
  · have z : (ow == 0) = true := by rw [beq_iff_eq]; exact h3
    clear h h1 h3
    go_enter Try.func17, Try.ntmps17
    go_wp2
    go_ret
    exact ⟨rfl, HB.out⟩
  have z3 : (ow == 0) = false := by rw [beq_eq_false_iff_ne]; exact h3
  by_cases h4 : al ≤ lo
  · clear h h1 h3
    go_enter Try.func17, Try.ntmps17
    go_wp2
    go_ret
    exact ⟨rfl, HB.out⟩
  have h5 : al - lo < ow := by omega
  clear h h1 h3
  go_enter Try.func17, Try.ntmps17
  go_wp2
  go_ret
  exact ⟨rfl, HB.out⟩
end Go.Proofs.Ytlbjoflmfboeeaa.Enc

/-
  The walks of the program's encoder: Symbol, Bits, Len; no condition but those told.
-/
set_option linter.unusedVariables false
set_option linter.unusedSimpArgs false
namespace Go.Proofs.Ytlbjoflmfboeeaa.Enc
open Go.RowKit Go.Proofs.Ytlbjoflmfboeeaa Go.Proofs.YtlbjoflmfboeeaaW.PrintWords

/-- What a model's part is. -/
theorem may_of {L : List Int} (good : Mdl.Good L) (k : Nat) (hk : k < L.length) : May (Mdl.lsum (L.take k)) (L.getD k 0) (Mdl.lsum L) := by
  have h := good.at hk
  have e : L.getD k 0 = L[k] := by rw [List.getD_eq_getElem?_getD, List.getElem?_eq_getElem hk]; rfl
  rw [e]
  exact ⟨h.2.2, h.1, h.2.1, good.all⟩
/-- The encoder's state behind a model's symbol. -/
def symS (s : St) (L : List Int) (k : Nat) : St := putS s (Mdl.lsum (L.take k)) (L.getD k 0) (Mdl.lsum L)
set_option maxHeartbeats 2000000 in
set_option maxRecDepth 100000 in
theorem Symbol_yes {w : World} {e m h cap : Nat} {s : St} {v : Value} {L : List Int} {f : Bool} (a : Is w e s v) (ok : s.Ready) (small : s.k ≤ 900000000) (b : Mdl.Is w m h cap L f) (good : Mdl.Good L) (k : Nat) (hk : k < L.length)
    (n1 : e ≠ m) (n2 : e ≠ h) (n3 : v.ownBlock ≠ some m) (n4 : v.ownBlock ≠ some h) :
    Calls Try.prog 19 #[.pointer (some ⟨e, 0, none⟩), .pointer (some ⟨m, 0, none⟩), .int .i64 k] w fun en w' => ∃ v', en = .returned (.int .i64 0) ∧ Is w' e (symS s L k) v' ∧ Mdl.Is w' m h cap (Mdl.next f L k) f ∧
      Only (fun i => (i = e ∨ v.ownBlock = some i) ∨ (i = m ∨ i = h)) w w' ∧ (∀ g, v'.ownBlock = some g → v.ownBlock = some g ∨ w.heap.size ≤ g) := by
  have A := Lib.hid a
  have B := Lib.hid b
  have G := Lib.hid good
  have HK := Lib.hid hk
  have MY := Lib.hid (may_of good k hk)
  have RD := Lib.hid ok
  have N3 := Lib.hid n3
  have N4 := Lib.hid n4
  have lm := b.blk.lt
  have lh := b.row.lt
  have le := a.blk.lt
  have HSy : Hid (symS s L k = putS s (Mdl.lsum (L.take k)) (L.getD k 0) (Mdl.lsum L)) := Lib.hid rfl
  have P1 := Lib.hid (Mdl.Part_some b good k hk)
  clear a b good ok hk n3 n4
  generalize Mdl.lsum (L.take k) = lo at *
  generalize L.getD k 0 = ow at *
  generalize Mdl.lsum L = al at *
  unfold Mdl.part at P1
  go_enter Try.func19, Try.ntmps19
  go_wp2_with (first
    | (go_at_call 61; refine P1.out.mono ?_; rintro e1 w1 ⟨rfl, hb1⟩; have hs1 := hb1.size; have HB1 := Lib.hid hb1; clear hb1)
    | (go_at_call 17
       have hb2 : Below w.heap.size w (w1.alloc (.cells #[.int .u32 lo, .int .u32 ow, .int .u32 al] 31)) := HB1.out.alloc hs1 _
       refine (Put_yes (A.out.below hb2) RD.out small lo ow al MY.out).mono ?_
       rintro e2 w2 ⟨v2, rfl, a2, s2⟩
       have A2 := Lib.hid a2
       have S2 := Lib.hid s2
       have O2 : Hid (Only (fun i => (i = e ∨ v.ownBlock = some i) ∨ (i = m ∨ i = h)) w w2) := Lib.hid ((Only.of_below hb2 : Only (fun i => (i = e ∨ v.ownBlock = some i) ∨ (i = m ∨ i = h)) _ _).then s2.only (fun i hi => .inl (.inl hi)))
       have W2 : Hid (∀ g, v2.ownBlock = some g → v.ownBlock = some g ∨ w.heap.size ≤ g) := Lib.hid (fun g hg => (s2.own g hg).imp id (fun hh => Nat.le_trans hb2.size hh))
       have B2 : Hid (Mdl.Is w2 m h cap L f) := Lib.hid ((B.out.only (Only.of_below hb2 : Only (fun _ => False) _ _) (fun x => x) (fun x => x)).only s2.only (fun hh => by rcases hh with hh | hh; exact n1 hh.symm; exact N3.out hh) (fun hh => by rcases hh with hh | hh; exact n2 hh.symm; exact N4.out hh))
       have L2 := s2.only.size
       clear a2 s2 hb2)
    | (go_at_call 62
       refine (Mdl.Learn_any B2.out G.out k HK.out).mono ?_
       rintro e3 w3 ⟨rfl, b3, o3⟩
       have B3 := Lib.hid b3
       have A3 : Hid (Is w3 e (putS s lo ow al) v2) := Lib.hid (A2.out.only o3 (fun hh => by rcases hh with hh | hh; exact n1 hh; exact n2 hh) (fun g hg hh => by
         rcases W2.out g hg with h1 | h1
         · rcases hh with hh | hh
           · subst hh; exact N3.out h1
           · subst hh; exact N4.out h1
         · rcases hh with hh | hh
           · omega
           · omega))
       have O3 : Hid (Only (fun i => (i = e ∨ v.ownBlock = some i) ∨ (i = m ∨ i = h)) w w3) := Lib.hid (O2.out.then o3 (fun i hi => .inl (.inr hi)))
       clear b3 o3))
  go_ret
  rw [HSy.out]
  exact ⟨v2, rfl, A3.out, B3.out, O3.out, W2.out⟩
theorem Symbol_bad {w : World} {e m h cap : Nat} {L : List Int} {f : Bool} (b : Mdl.Is w m h cap L f) (k : Int) (hk : k < 0 ∨ (L.length : Int) ≤ k) :
    Calls Try.prog 19 #[.pointer (some ⟨e, 0, none⟩), .pointer (some ⟨m, 0, none⟩), .int .i64 k] w fun en w' => en = .returned (.int .i64 1) ∧ Below w.heap.size w w' := by
  have P1 := Lib.hid (Mdl.Part_bad b k hk)
  clear b hk
  unfold Mdl.part at P1
  go_enter Try.func19, Try.ntmps19
  go_wp2_with (first
    | (go_at_call 61; refine P1.out.mono ?_; rintro e1 w1 ⟨rfl, hb1⟩; have hs1 := hb1.size; have HB1 := Lib.hid hb1; clear hb1))
  go_ret
  exact ⟨rfl, HB1.out.alloc hs1 _⟩
theorem Symbol_nomodel (e : Nat) (k : Value) (w : World) :
    Calls Try.prog 19 #[.pointer (some ⟨e, 0, none⟩), .pointer none, k] w fun en w' => en = .returned (.int .i64 1) ∧ Below w.heap.size w w' := by
  have P1 := Lib.hid (Mdl.Part_none k w)
  unfold Mdl.part at P1
  go_enter Try.func19, Try.ntmps19
  go_wp2_with (first
    | (go_at_call 61; refine P1.out.mono ?_; rintro e1 w1 ⟨rfl, hb1⟩; have hs1 := hb1.size; have HB1 := Lib.hid hb1; clear hb1))
  go_ret
  exact ⟨rfl, HB1.out.alloc hs1 _⟩
theorem Symbol_none {w : World} {m h cap : Nat} {L : List Int} {f : Bool} (b : Mdl.Is w m h cap L f) (good : Mdl.Good L) (k : Int) :
    Calls Try.prog 19 #[.pointer none, .pointer (some ⟨m, 0, none⟩), .int .i64 k] w fun en w' => en = .returned (.int .i64 1) ∧ Below w.heap.size w w' := by
  have P1 : Hid (Calls Try.prog 61 #[.pointer (some ⟨m, 0, none⟩), .int .i64 k] w fun en w' => ∃ x y z q : Int, en = .returned (.tuple #[.agg #[.int .u32 x, .int .u32 y, .int .u32 z], .int .i64 q]) ∧ Below w.heap.size w w') := by
    apply Lib.hid
    by_cases hk : k < 0 ∨ (L.length : Int) ≤ k
    · refine (Mdl.Part_bad b k hk).mono ?_
      rintro en w' ⟨rfl, hb⟩
      exact ⟨0, 0, 0, 1, rfl, hb⟩
    · obtain ⟨n, rfl⟩ := Int.eq_ofNat_of_zero_le (show 0 ≤ k by omega)
      refine (Mdl.Part_some b good n (by omega)).mono ?_
      rintro en w' ⟨rfl, hb⟩
      exact ⟨_, _, _, 0, rfl, hb⟩
  clear b good
  go_enter Try.func19, Try.ntmps19
  go_wp2_with (first
    | (go_at_call 61; refine P1.out.mono ?_; rintro e1 w1 ⟨x, y, z, q, rfl, hb1⟩; have hs1 := hb1.size; have HB1 := Lib.hid hb1; clear hb1))
  go_ret
  exact ⟨rfl, HB1.out.alloc hs1 _⟩
/-- The encoder's state behind a number's bits. -/
def bitsS (s : St) (n : Int) (w : Nat) : St :=
  if w = 0 then s else if w ≤ 12 then putS s (n % 2 ^ w) 1 (2 ^ w) else putS (putS s (n / 2 ^ (w - 12) % 4096) 1 4096) (n % 2 ^ (w - 12)) 1 (2 ^ (w - 12))
theorem bits_step (t : St) (n : Int) (j i : Nat) (hi : j = i + 12) (h0 : 0 < i) (h12 : i ≤ 12) : bitsS t n j = bitsS (putS t (n / 2 ^ i % 4096) 1 4096) n i := by
  unfold bitsS
  rw [if_neg (by omega), if_neg (by omega), if_neg (by omega), if_pos (by omega), show j - 12 = i from by omega]
theorem bits_last (t : St) (n : Int) (j : Nat) (h0 : 0 < j) (h12 : j ≤ 12) : bitsS t n j = putS t (n % 2 ^ j) 1 (2 ^ j) := by
  unfold bitsS
  rw [if_neg (by omega), if_pos h12]
theorem bits_nought (t : St) (n : Int) : bitsS t n 0 = t := by unfold bitsS; rw [if_pos rfl]
attribute [local irreducible] bitsS putS symS norm shiftS
theorem Is.drew {w : World} {m : Nat} {s : St} {v : Value} (a : Is w m s v) : Is w.drew m s v := ⟨a.blk.drew, a.sl.drew, a.ne⟩
set_option maxHeartbeats 2000000 in
set_option maxRecDepth 100000 in
theorem Bits_yes {w : World} {e : Nat} {s : St} {v : Value} (a : Is w e s v) (ok : s.Ready) (small : s.k ≤ 800000000) (n : Int) (wide : Nat) (h0 : 0 ≤ n) (h1 : n < 2 ^ wide) (h2 : wide ≤ 24) :
    Calls Try.prog 18 #[.pointer (some ⟨e, 0, none⟩), .int .u32 n, .int .i64 wide] w fun en w' => ∃ v', en = .returned (.int .i64 0) ∧ Is w' e (bitsS s n wide) v' ∧ Step e v v' w w' := by
  have nm : min wide 32 = wide := by omega
  have z0 : n / 2 ^ wide = 0 := Int.ediv_eq_zero_of_lt h0 h1
  have z1 : (n / 2 ^ wide == 0) = true := by rw [z0]; rfl
  have z2 : (n / 2 ^ wide != 0) = false := by rw [z0]; rfl
  have y1 : decide ((wide : Int) < 0) = false := decide_eq_false (by omega)
  have y2 : decide ((24 : Int) < (wide : Int)) = false := decide_eq_false (by omega)
  have A := Lib.hid a
  have R0 := Lib.hid ok
  clear a ok
  go_enter Try.func18, Try.ntmps18
  go_wp2
  clear z0 z1 z2 y1 y2 nm
  go_loopw [2] (fun u wr => ∃ (j : Nat) (t : St) (v' : Value), j ≤ 24 ∧ u = .int .i64 (j : Int) ∧ Hid (bitsS t n j = bitsS s n wide) ∧ Hid t.Ready ∧ t.k + 2 * j ≤ 800000048 ∧ Hid (Is wr e t v') ∧ Hid (Step e v v' w wr)) (fun u _ => (intOf u).toNat)
  case atStart => exact ⟨wide, s, v, h2, rfl, rfl, R0, by omega, A, Step.refl e v w⟩
  case round =>
    clear A R0
    obtain ⟨j, t, v', hj, rfl, HN, R0, hkk, A, S0⟩ := hrel
    have hm := A.out.blk.lt
    have u1 : (1 : Int) % 4294967296 = 1 := by decide
    by_cases hc : 12 < j
    · obtain ⟨i, hi⟩ : ∃ i : Nat, j = i + 12 := ⟨j - 12, by omega⟩
      have hji : (j : Int) - 12 = (i : Int) := by omega
      have nm : min i 32 = i := by omega
      have k1 : ¬ ((i : Int) < 0) := by omega
      have k2 : decide ((i : Int) < 0) = false := decide_eq_false k1
      have w1 : IntKind.u32.wrap 4096 = 4096 := by decide
      have w2 : IntKind.u32.wrap 4095 = 4095 := by decide
      have hp : (1 : Int) ≤ 2 ^ i := by have : (0 : Int) < 2 ^ i := Int.pow_pos (by omega); omega
      have hn32 : n < 4294967296 := by
        have : (2 : Int) ^ wide ≤ 2 ^ 24 := by
          have := Nat.pow_le_pow_right (show 0 < 2 by decide) h2
          exact_mod_cast this
        have e24 : (2 : Int) ^ 24 = 16777216 := by decide
        omega
      have hx0 : 0 ≤ n / 2 ^ i := Int.ediv_nonneg h0 (by omega)
      have hx1 : n / 2 ^ i ≤ n := Int.ediv_le_self _ h0
      have em : bits .and .u32 (n / 2 ^ i) 4095 = n / 2 ^ i % 4096 := bits_mask .u32 32 (by decide) wraps_u32 12 (by decide) _ hx0 (by show n / 2 ^ i < 4294967296; omega)
      have MY : Hid (May (n / 2 ^ i % 4096) 1 4096) := Lib.hid ⟨by omega, by omega, by omega, by omega⟩
      have HP := Lib.hid (put_ready R0.out MY.out)
      have HSt := Lib.hid (bits_step t n j i hi (by omega) (by omega))
      clear hi hx0 hx1 hp hn32
      go_wp2
      go_still_tail 11, (by kernel_rfl)
      go_wp2_with (first
        | (go_at_call 17
           refine (Put_yes A.out.drew R0.out (by omega) _ _ _ MY.out).mono ?_
           rintro e4 w4 ⟨v4, rfl, a4, s4⟩
           have A4 := Lib.hid a4
           have S4 := Lib.hid s4
           clear a4 s4))
      go_roundw
      case rel => exact ⟨i, putS t (n / 2 ^ i % 4096) 1 4096, v4, by omega, rfl, HSt.out.symm.trans HN.out, HP.out.1, by have := HP.out.2.2; omega, A4, S0.out.drew.trans S4.out⟩
      case measure => simp [intOf]; omega
    · by_cases hz : 0 < j
      · have m1 : min (j : Int) 12 = (j : Int) := by omega
        have m2 : mn (j : Int) 12 = (j : Int) := by unfold mn; omega
        have hp : (1 : Int) ≤ 2 ^ j ∧ (2 : Int) ^ j ≤ 4096 := by
          have h3 : (0 : Int) < 2 ^ j := Int.pow_pos (by omega)
          have h4 := Nat.pow_le_pow_right (show 0 < 2 by decide) (show j ≤ 12 by omega)
          have h5 : (2 : Int) ^ j ≤ 2 ^ 12 := by exact_mod_cast h4
          have e12 : (2 : Int) ^ 12 = 4096 := by decide
          omega
        have hn32 : n < 4294967296 := by
          have h4 := Nat.pow_le_pow_right (show 0 < 2 by decide) h2
          have h5 : (2 : Int) ^ wide ≤ 2 ^ 24 := by exact_mod_cast h4
          have e24 : (2 : Int) ^ 24 = 16777216 := by decide
          omega
        have w1 : IntKind.u32.wrap (2 ^ j) = 2 ^ j := wraps_u32 _ (by omega) (by omega)
        have w2 : IntKind.u32.wrap (2 ^ j - 1) = 2 ^ j - 1 := wraps_u32 _ (by omega) (by omega)
        have em : bits .and .u32 n (2 ^ j - 1) = n % 2 ^ j := bits_mask .u32 32 (by decide) wraps_u32 j (by show j ≤ 32; omega) _ h0 (by show n < 4294967296; omega)
        have hq0 := Int.emod_nonneg n (show (2 : Int) ^ j ≠ 0 by omega)
        have hq1 := Int.emod_lt_of_pos n (show (0 : Int) < 2 ^ j by omega)
        have MY : Hid (May (n % 2 ^ j) 1 (2 ^ j)) := Lib.hid ⟨hq0, by omega, by omega, by omega⟩
        have HP := Lib.hid (put_ready R0.out MY.out)
        have HSt := Lib.hid (bits_last t n j hz (by omega))
        have k4 : ¬ ((j : Int) < 0) := by omega
        have k5 : decide ((j : Int) < 0) = false := decide_eq_false k4
        clear hq0 hq1 hp hn32
        go_wp2
        go_still_tail 11, (by kernel_rfl)
        go_wp2_with (first
          | (go_at_call 17
             refine (Put_yes A.out.drew R0.out (by omega) _ _ _ MY.out).mono ?_
             rintro e4 w4 ⟨v4, rfl, a4, s4⟩
             have A4 := Lib.hid a4
             have S4 := Lib.hid s4
             clear a4 s4))
        go_roundw
        case rel => exact ⟨0, putS t (n % 2 ^ j) 1 (2 ^ j), v4, by omega, rfl, (bits_nought _ _).trans (HSt.out.symm.trans HN.out), HP.out.1, by have := HP.out.2.2; omega, A4, S0.out.drew.trans S4.out⟩
        case measure => simp [intOf]; omega
      · obtain rfl : j = 0 := by omega
        rw [bits_nought] at HN
        have HN2 := HN.out.symm
        have HF := Lib.hid HN2
        clear HN HN2
        go_wp2
        go_ret
        rw [HF.out]
        exact ⟨v', rfl, A.out, S0.out⟩
theorem Bits_none (n wide : Value) (w : World) : Calls Try.prog 18 #[.pointer none, n, wide] w fun en w' => en = .returned (.int .i64 1) ∧ w' = w := by
  go_enter Try.func18, Try.ntmps18
  go_wp2
  go_ret
  exact ⟨rfl, rfl⟩
theorem Bits_bad (e : Nat) (n : Int) (wide : Int) (h0 : 0 ≤ n) (hb : wide < 0 ∨ 24 < wide ∨ (2 : Int) ^ wide.toNat ≤ n) (w : World) :
    Calls Try.prog 18 #[.pointer (some ⟨e, 0, none⟩), .int .u32 n, .int .i64 wide] w fun en w' => en = .returned (.int .i64 1) ∧ w' = w := by
  by_cases h1 : wide < 0
  · clear hb
    go_enter Try.func18, Try.ntmps18
    go_wp2
    go_ret
    exact ⟨rfl, rfl⟩
  by_cases h2 : 24 < wide
  · clear hb
    go_enter Try.func18, Try.ntmps18
    go_wp2
    go_ret
    exact ⟨rfl, rfl⟩
  obtain ⟨k, rfl⟩ := Int.eq_ofNat_of_zero_le (show 0 ≤ wide by omega)
  have h3 : (2 : Int) ^ k ≤ n := by
    rcases hb with h | h | h
    · omega
    · omega
    · simpa using h
  have nm : min k 32 = k := by omega
  have hp : (0 : Int) < 2 ^ k := Int.pow_pos (by omega)
  have z0 : ¬ (n / 2 ^ k = 0) := by
    have : 1 ≤ n / 2 ^ k := (Int.le_ediv_iff_mul_le hp).2 (by omega)
    omega
  have z1 : (n / 2 ^ k == 0) = false := by rw [beq_eq_false_iff_ne]; exact z0
  have z2 : (n / 2 ^ k != 0) = true := by rw [bne_iff_ne]; exact z0
  clear hb h3 hp
  go_enter Try.func18, Try.ntmps18
  go_wp2
  go_ret
  exact ⟨rfl, rfl⟩
end Go.Proofs.Ytlbjoflmfboeeaa.Enc

/-
  The walks of the program's encoder: Len, Bytes; no condition but those told.
-/
set_option linter.unusedVariables false
set_option linter.unusedSimpArgs false
namespace Go.Proofs.Ytlbjoflmfboeeaa.Enc
open Go.RowKit Go.Proofs.Ytlbjoflmfboeeaa Go.Proofs.YtlbjoflmfboeeaaW.PrintWords

theorem Len_none (w : World) : Calls Try.prog 20 #[.pointer none] w fun en w' => en = .returned (.int .i64 0) ∧ w' = w := by
  go_enter Try.func20, Try.ntmps20
  go_wp2
  go_ret
  exact ⟨rfl, rfl⟩
theorem Len_some {w : World} {e : Nat} {s : St} {v : Value} (a : Is w e s v) (he : 1 ≤ s.he) (small : s.k ≤ 900000000) :
    Calls Try.prog 20 #[.pointer (some ⟨e, 0, none⟩)] w fun en w' => en = .returned (.int .i64 ((s.k + 4 : Nat) : Int)) ∧ Below w.heap.size w w' := by
  obtain ⟨A0, cap, hv, hcap⟩ := a.sl.form
  have d2 := a.blk.cell (i := 2) rfl
  have d4 := a.blk.cell (i := 4) rfl
  have d5 := a.blk.cell (i := 5) rfl
  obtain ⟨lo, sz, he', fi, out, be⟩ := s
  simp only [St.k] at *
  clear a
  subst hv
  generalize out.length = n at *
  cases be with
  | true =>
    simp only [if_true] at small ⊢
    go_enter Try.func20, Try.ntmps20
    go_wp2
    go_quiet (fail)
    go_wp2
    go_ret
    exact ⟨by simp; omega, pw_below_drewN (Below.refl _ _) _⟩
  | false =>
    simp only [Bool.false_eq_true, if_false] at small ⊢
    go_enter Try.func20, Try.ntmps20
    go_wp2
    go_quiet (fail)
    go_wp2
    go_ret
    exact ⟨by simp; omega, pw_below_drewN (Below.refl _ _) _⟩
/-- Without noughts behind. -/
def strip (l : List Int) : List Int := (l.reverse.dropWhile (fun x => x == 0)).reverse
theorem strip_nil : strip [] = [] := rfl
theorem strip_snoc (l : List Int) (x : Int) : strip (l ++ [x]) = if x = 0 then strip l else l ++ [x] := by
  unfold strip
  rw [List.reverse_append, List.reverse_singleton, List.singleton_append, List.dropWhile_cons]
  by_cases h : x = 0
  · subst h; simp
  · rw [if_neg h, if_neg (by simpa using h)]; simp
theorem strip_take (l : List Int) (k : Nat) (h : k < l.length) : strip (l.take (k + 1)) = if l[k] = 0 then strip (l.take k) else l.take (k + 1) := by
  rw [List.take_succ_eq_append_getElem h, strip_snoc]
def shifts : Nat → St → St
  | 0, s => s
  | n + 1, s => shifts n (shiftS s)
/-- The bytes of all parts so far. -/
def bytesS (s : St) : List Int := strip (shifts 5 s).out
theorem Bytes_none (w : World) : Calls Try.prog 21 #[.pointer none] w fun en w' => en = .returned (.slice none 0 0) ∧ w' = w := by
  go_enter Try.func21, Try.ntmps21
  go_wp2
  go_ret
  exact ⟨rfl, rfl⟩
set_option maxHeartbeats 2000000 in
set_option maxRecDepth 100000 in
theorem Bytes_some {w : World} {e : Nat} {s : St} {v : Value} (a : Is w e s v) (ok : s.Ready) (small : s.k ≤ 800000000) :
    Calls Try.prog 21 #[.pointer (some ⟨e, 0, none⟩)] w fun en w' => ∃ v', en = .returned v' ∧ Sl w' 5 .u8 v' (bytesS s) ∧ (∀ g, v'.ownBlock = some g → w.heap.size ≤ g) ∧ Below w.heap.size w w' := by
  obtain ⟨A0, cap, hv, hcap⟩ := a.sl.form
  subst hv
  have d0 := a.blk.cell (i := 0) rfl
  have d1 := a.blk.cell (i := 1) rfl
  have d2 := a.blk.cell (i := 2) rfl
  have d3 := a.blk.cell (i := 3) rfl
  have d4 := a.blk.cell (i := 4) rfl
  have d5 := a.blk.cell (i := 5) rfl
  have hle := a.blk.lt
  have A := Lib.hid a
  have R := Lib.hid ok
  have hl : s.out.length ≤ 800000000 := by have := ok.he0; have h2 := small; unfold St.k at h2; omega
  clear a ok
  go_enter Try.func21, Try.ntmps21
  go_wp2_with (first
    | (at_builtin; refine wpList_add (.tmp 9) (.tmp 13) 35 5 .u8 0 1 rfl rfl Try.underlying35 info_u8 (.slice (some ⟨w.heap.size + 1, 0, none⟩) 0 0) (.slice A0 s.out.length cap) [] s.out rfl rfl ?_ ?_ ?_ ?_ ?_
       · have hr : RowI ((w.alloc (.cells #[.int .u64 s.lo, .int .u32 s.sz, .int .i64 s.he, .int .u8 s.fi, .slice A0 s.out.length cap, .bool s.be] 110)).alloc (.cells #[] 5)) 5 .u8 (w.heap.size + 1) 0 [] :=
           ⟨#[], Blk.new_at _ _ (by simp), Nat.le_refl _, Nat.zero_le _, rfl, fun i h => by simp at h⟩
         exact Sl.row hr
       · exact Src.of_sl ((A.out.sl.alloc _).alloc _)
       · simp; omega
       · simp; omega
       intro v1 w1 ha
       rw [List.nil_append] at ha
       have b1 : Blk w1 w.heap.size 110 #[.int .u64 s.lo, .int .u32 s.sz, .int .i64 s.he, .int .u8 s.fi, .slice A0 s.out.length cap, .bool s.be] :=
         ((Blk.new w _ _).alloc _).of_same (ha.grown.block _ (by simp; omega) (by show some w.heap.size ≠ some (w.heap.size + 1); simp))
       obtain ⟨A1, c1, hv1, hc1⟩ := ha.sl.form
       subst hv1
       have x4 := b1.cell (i := 4) rfl
       have y4 := b1.free 4
       have B1 := Lib.hid b1
       have HA := Lib.hid ha
       clear ha b1))
  have hown : ∀ g, (Value.slice A1 s.out.length c1).ownBlock = some g → w.heap.size < g := by
    intro g hg
    rcases HA.out.at_ with h | h
    · rw [h] at hg; have e : w.heap.size + 1 = g := Option.some.inj hg; omega
    · rw [h] at hg; have e := Option.some.inj hg; simp at e; omega
  have hB : Below w.heap.size w w1 := ((((Below.refl _ _).alloc (Nat.le_refl _) _ : Below w.heap.size w _).alloc (by simp) _).trans (HA.out.only.below (B := w.heap.size) (by simp; omega) (fun i hi => by have e : w.heap.size + 1 = i := Option.some.inj hi; omega)))
  have I1 : Is (w1.setCell ⟨w.heap.size, 4, none⟩ (.slice A1 s.out.length c1)) w.heap.size s (.slice A1 s.out.length c1) :=
    ⟨B1.out.set 4 _, HA.out.sl.other (a := ⟨w.heap.size, 4, none⟩) (fun h => Nat.lt_irrefl _ (hown _ h)) _, fun h => Nat.lt_irrefl _ (hown _ h)⟩
  have hB2 : Below w.heap.size w (w1.setCell ⟨w.heap.size, 4, none⟩ (.slice A1 s.out.length c1)) := hB.setCell (p := ⟨w.heap.size, 4, none⟩) (Nat.le_refl _) _
  have I0 := Lib.hid I1
  have W0 := Lib.hid hB2
  have N0 := Lib.hid hown
  clear d0 d1 d2 d3 d4 d5 x4 y4 B1 HA hown hB I1 hB2 A
  go_loopw [16] (fun u wr => ∃ (j : Nat) (t : St) (v' : Value), j ≤ 5 ∧ u = .int .i64 (j : Int) ∧ Hid (shifts (5 - j) t = shifts 5 s) ∧ Hid t.Ok ∧ t.k = s.k + j ∧ Hid (Is wr w.heap.size t v') ∧ Hid (∀ g, v'.ownBlock = some g → w.heap.size < g) ∧ Hid (Below w.heap.size w wr)) (fun u _ => 5 - (intOf u).toNat)
  case atStart =>
    have r := R.out
    exact ⟨0, s, _, by omega, rfl, rfl, ⟨r.lo0, by have := r.sum; have := r.sz0; omega, by have := r.sz0; omega, r.sz1, r.he0, r.fi0, r.fi1, by omega⟩, rfl, I0, N0, W0⟩
  case round =>
    clear I0 W0 N0
    obtain ⟨j, t, v', hj, rfl, HN, T1, hk, I1, N1, W1⟩ := hrel
    by_cases hlt : j < 5
    · have SH := Lib.hid (shift_calls I1.out T1.out)
      go_wp2_with (first
        | (go_at_call 60; refine SH.out.mono ?_; rintro e w4 ⟨v4, rfl, a4, s4⟩; have A5 := Lib.hid a4; have S5 := Lib.hid s4; clear a4 s4))
      go_roundw
      case rel =>
        have hh := shiftS_he t T1.out.he0
        have hf := shiftS_fi t T1.out.fi0 T1.out.fi1
        have hl := shiftS_lo t
        have hz := shiftS_sz t
        have hk2 := shift_k t T1.out.he0
        have hwr := I1.out.blk.lt
        refine ⟨j + 1, shiftS t, v4, by omega, by push_cast; rfl, ?_, ⟨hl.1, by omega, by rw [hz]; exact T1.out.sz0, by rw [hz]; exact T1.out.sz1, hh, hf.1, hf.2, by omega⟩, by omega, A5, fun g hg => ?_, W1.out.trans (S5.out.only.below (B := w.heap.size) (by omega) (fun i hi => ?_))⟩
        · have e5 : 5 - j = (5 - (j + 1)) + 1 := by omega
          have := HN.out
          rw [e5] at this
          exact this
        · rcases S5.out.own g hg with h | h
          · exact N1.out g h
          · omega
        · rcases hi with hi | hi
          · omega
          · exact Nat.le_of_lt (N1.out i hi)
      case measure => simp [intOf]; omega
    · obtain rfl : j = 5 := by omega
      have HF : Hid (t.out = (shifts 5 s).out) := Lib.hid (congrArg St.out HN.out)
      have hlen : t.out.length ≤ 900000000 := by have := T1.out.he0; unfold St.k at hk; unfold St.k at small; omega
      have HFin : Hid (bytesS s = strip t.out) := Lib.hid (by unfold bytesS; rw [HF.out])
      have hsl := I1.out.sl
      obtain ⟨lo, sz, he, fi, out, be⟩ := t
      simp only at hlen hsl HFin
      rcases hsl with ⟨rfl, rfl⟩ | ⟨g, cp, rfl, hrow⟩
      · have x4 := I1.out.blk.cell (i := 4) rfl
        go_wp2
        refine wp_loop_rounds 1 ?_
        rw [rounds_succ]
        go_wp2
        go_ret
        exact ⟨_, rfl, by rw [HFin.out]; exact Sl.nil _ _ _, fun g hg => (by cases hg), W1.out⟩
      · have HRow := Lib.hid hrow
        have HBk := Lib.hid I1.out.blk
        have hg := N1.out g rfl
        simp only at HBk
        clear hrow I1 T1 HN HF
        obtain ⟨len, hlen2⟩ : ∃ len, out.length = len := ⟨_, rfl⟩
        have HL := Lib.hid hlen2
        have hcl := HRow.out.len.1
        rw [hlen2] at hlen HBk hcl
        clear hlen2 N1
        go_wp2
        go_loopg [] len (fun n wq => n ≤ len ∧ Hid (strip (out.take n) = bytesS s) ∧ Hid (Blk wq w.heap.size 110 #[.int .u64 lo, .int .u32 sz, .int .i64 he, .int .u8 fi, .slice (some ⟨g, 0, none⟩) n cp, .bool be]) ∧ Hid (RowI wq 5 .u8 g cp out) ∧ Hid (Below w.heap.size w wq))
        case atStart => exact ⟨Nat.le_refl _, by show _ = _; rw [List.take_of_length_le (by rw [HL.out]; omega)]; exact HFin.out.symm, HBk, HRow, W1⟩
        case round =>
          clear HBk HRow W1
          obtain ⟨hn, HS, HBk, HRow, W1⟩ := hrel
          have x4 := HBk.out.cell (i := 4) rfl
          have y4 := HBk.out.free 4
          by_cases h0 : 0 < gk
          · obtain ⟨n, rfl⟩ : ∃ n, gk = n + 1 := ⟨gk - 1, by omega⟩
            have c1 := HRow.out.cell (i := n) (by rw [HL.out]; omega)
            have HT := Lib.hid (strip_take out n (by rw [HL.out]; omega))
            have e1 : ((n + 1 : Nat) : Int) - 1 = (n : Int) := by omega
            generalize out[n]'(by rw [HL.out]; omega) = y at *
            by_cases hy : y = 0
            · have z : (y == 0) = true := by rw [beq_iff_eq]; exact hy
              have HT2 : Hid (strip (out.take (n + 1)) = strip (out.take n)) := Lib.hid (by rw [HT.out, if_pos hy])
              have ncp : n ≤ cp := by omega
              clear hy HT
              go_wp2
              go_roundg n
              case measure => omega
              case rel => exact ⟨by omega, HT2.out.symm.trans HS.out, HBk.out.set 4 _, HRow.out.other (a := ⟨w.heap.size, 4, none⟩) (by simp; omega) _, W1.out.setCell (p := ⟨w.heap.size, 4, none⟩) (Nat.le_refl _) _⟩
            · have z : (y == 0) = false := by rw [beq_eq_false_iff_ne]; exact hy
              have HT2 : Hid (strip (out.take (n + 1)) = out.take (n + 1)) := Lib.hid (by rw [HT.out, if_neg hy])
              clear hy HT
              go_wp2
              go_ret
              have hr := HRow.out.take (n + 1)
              have hs := Sl.row hr
              rw [List.length_take, Nat.min_eq_left (by rw [HL.out]; omega)] at hs
              exact ⟨_, rfl, by rw [← HS.out, HT2.out]; exact hs, fun g' hg' => (by have e : g = g' := Option.some.inj hg'; omega), W1.out⟩
          · obtain rfl : gk = 0 := by omega
            go_wp2
            go_ret
            have hr := HRow.out.take 0
            have hs := Sl.row hr
            rw [List.take_zero] at hs HS
            exact ⟨_, rfl, by rw [← HS.out]; exact hs, fun g' hg' => (by have e : g = g' := Option.some.inj hg'; omega), W1.out⟩
end Go.Proofs.Ytlbjoflmfboeeaa.Enc

/-
  Digits to the base 256: sums, and what goes over. Plain theorems; no condition but those told.
-/
set_option linter.unusedVariables false
namespace Go.Proofs.Ytlbjoflmfboeeaa.Dig

/-- The number that digits are. -/
def vl (D : List Int) : Int := D.foldl (fun a x => a * 256 + x) 0
theorem foldl_vl (a : Int) (D : List Int) : D.foldl (fun a x => a * 256 + x) a = a * 256 ^ D.length + vl D := by
  induction D generalizing a with
  | nil => simp [vl]
  | cons x l ih =>
    have h1 := ih (a * 256 + x)
    have h2 := ih (0 * 256 + x)
    unfold vl
    simp only [List.foldl_cons, List.length_cons]
    rw [h1, h2, Int.pow_succ, Int.add_mul, Int.mul_assoc]
    simp only [Int.zero_mul, Int.zero_add]
    rw [Int.mul_comm 256]
    omega
theorem vl_append (A B : List Int) : vl (A ++ B) = vl A * 256 ^ B.length + vl B := by
  unfold vl
  rw [List.foldl_append, foldl_vl]; rfl
theorem vl_nil : vl [] = 0 := rfl
theorem vl_one (x : Int) : vl [x] = x := by simp [vl]
theorem vl_cons (x : Int) (l : List Int) : vl (x :: l) = x * 256 ^ l.length + vl l := by
  have := vl_append [x] l
  rw [vl_one] at this
  exact this
theorem vl_snoc (l : List Int) (x : Int) : vl (l ++ [x]) = vl l * 256 + x := by
  rw [vl_append, vl_one]; simp
theorem pow_pos256 (n : Nat) : (0 : Int) < 256 ^ n := Int.pow_pos (by omega)
theorem vl_nonneg (D : List Int) (h : ∀ x ∈ D, 0 ≤ x) : 0 ≤ vl D := by
  induction D with
  | nil => exact Int.le_refl 0
  | cons x l ih =>
    rw [vl_cons]
    have h1 := ih fun y hy => h y (List.mem_cons_of_mem _ hy)
    have h2 := h x (List.mem_cons_self ..)
    have h3 := Int.mul_nonneg h2 (Int.le_of_lt (pow_pos256 l.length))
    omega
theorem vl_lt (D : List Int) (h : ∀ x ∈ D, 0 ≤ x ∧ x ≤ 255) : vl D < 256 ^ D.length := by
  induction D with
  | nil => simp [vl]
  | cons x l ih =>
    rw [vl_cons]
    have h1 := ih fun y hy => h y (List.mem_cons_of_mem _ hy)
    have h2 := h x (List.mem_cons_self ..)
    have h3 : x * 256 ^ l.length ≤ 255 * 256 ^ l.length := Int.mul_le_mul_of_nonneg_right h2.2 (Int.le_of_lt (pow_pos256 _))
    rw [List.length_cons, Int.pow_succ]
    omega
/-- Digits are told by the number. -/
theorem vl_inj (A B : List Int) (hl : A.length = B.length) (ha : ∀ x ∈ A, 0 ≤ x ∧ x ≤ 255) (hb : ∀ x ∈ B, 0 ≤ x ∧ x ≤ 255) (h : vl A = vl B) : A = B := by
  induction A generalizing B with
  | nil => cases B with
    | nil => rfl
    | cons y m => simp at hl
  | cons x l ih =>
    cases B with
    | nil => simp at hl
    | cons y m =>
      have hlm : l.length = m.length := by simpa using hl
      rw [vl_cons, vl_cons, hlm] at h
      have h1 := vl_lt l fun z hz => ha z (List.mem_cons_of_mem _ hz)
      have h2 := vl_lt m fun z hz => hb z (List.mem_cons_of_mem _ hz)
      have h3 := vl_nonneg l fun z hz => (ha z (List.mem_cons_of_mem _ hz)).1
      have h4 := vl_nonneg m fun z hz => (hb z (List.mem_cons_of_mem _ hz)).1
      rw [hlm] at h1
      have hp := pow_pos256 m.length
      generalize (256 : Int) ^ m.length = p at *
      have hxy : x = y := by
        rcases Int.lt_trichotomy x y with hlt | heq | hgt
        · have : (x + 1) * p ≤ y * p := Int.mul_le_mul_of_nonneg_right (by omega) (by omega)
          rw [Int.add_mul] at this; omega
        · exact heq
        · have : (y + 1) * p ≤ x * p := Int.mul_le_mul_of_nonneg_right (by omega) (by omega)
          rw [Int.add_mul] at this; omega
      subst hxy
      rw [ih m hlm (fun z hz => ha z (List.mem_cons_of_mem _ hz)) (fun z hz => hb z (List.mem_cons_of_mem _ hz)) (by omega)]
theorem vl_set (D : List Int) (i : Nat) (hi : i < D.length) (x : Int) : vl (D.set i x) = vl D + (x - D[i]) * 256 ^ (D.length - 1 - i) := by
  induction D generalizing i with
  | nil => simp at hi
  | cons y l ih =>
    cases i with
    | zero =>
      simp only [List.set_cons_zero, List.getElem_cons_zero, List.length_cons, Nat.add_sub_cancel, Nat.sub_zero]
      rw [vl_cons, vl_cons, Int.sub_mul]
      omega
    | succ i =>
      simp only [List.set_cons_succ, List.getElem_cons_succ, List.length_cons, Nat.add_sub_cancel]
      have := ih i (by simpa using hi)
      rw [vl_cons, vl_cons, this, List.length_set, show l.length - (i + 1) = l.length - 1 - i from by omega]
      omega
/-- A number is added to the last digits, none is carried. -/
def addF : Nat → List Int → Nat → Int → List Int
  | 0, D, _, _ => D
  | n + 1, D, K, a => addF n (D.set (K + n) (D.getD (K + n) 0 + a % 256)) K (a / 256)
/-- What is above 255 goes over, from place n down. -/
def carF : Nat → List Int → Nat → List Int
  | 0, D, _ => D
  | i + 1, D, K => if K ≤ i + 1 ∨ 255 < D.getD (i + 1) 0 then carF i (if 255 < D.getD (i + 1) 0 then (D.set (i + 1) (D.getD (i + 1) 0 - 256)).set i (D.getD i 0 + 1) else D) K else D
theorem getD_get (D : List Int) (i : Nat) (h : i < D.length) : D.getD i 0 = D[i] := by rw [List.getD_eq_getElem?_getD, List.getElem?_eq_getElem h]; rfl
theorem vl_put (D : List Int) (i : Nat) (hi : i < D.length) (x : Int) (e : Nat) (he : D.length - 1 - i = e) : vl (D.set i x) = vl D + (x - D.getD i 0) * 256 ^ e := by
  subst he
  rw [vl_set D i hi, getD_get D i hi]
theorem getD_put (D : List Int) (i j : Nat) (h : j ≠ i) (x : Int) : (D.set j x).getD i 0 = D.getD i 0 := by
  rw [List.getD_eq_getElem?_getD, List.getD_eq_getElem?_getD, List.getElem?_set_ne h]
theorem addF_len (n : Nat) : ∀ (D : List Int) (K : Nat) (a : Int), (addF n D K a).length = D.length := by
  induction n with
  | zero => intro D K a; rfl
  | succ n ih => intro D K a; unfold addF; rw [ih]; simp
theorem carF_len (n : Nat) : ∀ (D : List Int) (K : Nat), (carF n D K).length = D.length := by
  induction n with
  | zero => intro D K; rfl
  | succ n ih => intro D K; unfold carF; split <;> (try split) <;> simp [ih]
theorem addF_vl (n : Nat) (hn : n ≤ 4) : ∀ (D : List Int) (K : Nat) (a : Int), D.length = K + 4 → 0 ≤ a → a < 256 ^ n → vl (addF n D K a) = vl D + a * 256 ^ (4 - n) := by
  induction n with
  | zero =>
    intro D K a hl h0 h1
    have : a = 0 := by simp at h1; omega
    subst this
    simp [addF]
  | succ n ih =>
    intro D K a hl h0 h1
    unfold addF
    rw [ih (by omega) _ _ _ (by simpa using hl) (by omega) (by rw [Int.pow_succ] at h1; exact Int.ediv_lt_of_lt_mul (by omega) h1), vl_put D (K + n) (by omega) _ (4 - (n + 1)) (by omega), show 4 - n = 4 - (n + 1) + 1 from by omega, Int.pow_succ]
    have e : a = a % 256 + a / 256 * 256 := by omega
    generalize (256 : Int) ^ (4 - (n + 1)) = p
    have h5 : a * p = (a % 256 + a / 256 * 256) * p := by rw [← e]
    rw [h5, Int.add_mul, show D.getD (K + n) 0 + a % 256 - D.getD (K + n) 0 = a % 256 from by omega, Int.mul_assoc, Int.mul_comm 256 p]
    omega
theorem carF_vl (n : Nat) : ∀ (D : List Int) (K : Nat), n < D.length → vl (carF n D K) = vl D := by
  induction n with
  | zero => intro D K h; rfl
  | succ i ih =>
    intro D K h
    unfold carF
    by_cases hc : K ≤ i + 1 ∨ 255 < D.getD (i + 1) 0
    · rw [if_pos hc]
      by_cases h2 : 255 < D.getD (i + 1) 0
      · rw [if_pos h2, ih _ _ (by simp; omega), vl_put _ i (by simp; omega) _ (D.length - 1 - (i + 1) + 1) (by simp; omega), vl_put D (i + 1) h _ (D.length - 1 - (i + 1)) rfl, getD_put D i (i + 1) (by omega), Int.pow_succ]
        generalize (256 : Int) ^ (D.length - 1 - (i + 1)) = p
        rw [show D.getD (i + 1) 0 - 256 - D.getD (i + 1) 0 = -256 from by omega, show D.getD i 0 + 1 - D.getD i 0 = 1 from by omega]
        omega
      · rw [if_neg h2, ih _ _ (by omega)]
    · rw [if_neg hc]
/-- What holds of digits while they are carried: from i down. -/
structure Mid (D : List Int) (K i : Nat) : Prop where
  low : ∀ x ∈ D, 0 ≤ x
  hi : ∀ j (h : j < D.length), i < j → D[j] ≤ 255
  at_ : ∀ (h : i < D.length), D[i] ≤ 511
  lt : ∀ j (h : j < D.length), j < i → D[j] ≤ 510
  far : ∀ j (h : j < D.length), j < i → j < K → D[j] ≤ 255
theorem Mid.step {D : List Int} {K i : Nat} (h : Mid D K (i + 1)) (hl : i + 1 < D.length) (h2 : 255 < D.getD (i + 1) 0) : Mid ((D.set (i + 1) (D.getD (i + 1) 0 - 256)).set i (D.getD i 0 + 1)) K i := by
  rw [getD_get _ _ hl] at h2 ⊢
  rw [getD_get _ _ (show i < D.length by omega)]
  have h511 := h.at_ hl
  have hi510 := h.lt i (by omega) (by omega)
  have hi0 := h.low _ (List.getElem_mem (show i < D.length by omega))
  refine ⟨fun x hx => ?_, fun j hj hij => ?_, fun hj => ?_, fun j hj hij => ?_, fun j hj hij hK => ?_⟩
  · rcases List.mem_or_eq_of_mem_set hx with hx | hx
    · rcases List.mem_or_eq_of_mem_set hx with hx | hx
      · exact h.low x hx
      · omega
    · omega
  · simp at hj
    rw [List.getElem_set_ne (by omega)]
    by_cases hji : j = i + 1
    · subst hji; rw [List.getElem_set_self]; omega
    · rw [List.getElem_set_ne (by omega)]
      exact h.hi j hj (by omega)
  · rw [List.getElem_set_self]; omega
  · simp at hj
    rw [List.getElem_set_ne (by omega), List.getElem_set_ne (by omega)]
    exact h.lt j hj (by omega)
  · simp at hj
    rw [List.getElem_set_ne (by omega), List.getElem_set_ne (by omega)]
    exact h.far j hj (by omega) hK
theorem Mid.skip {D : List Int} {K i : Nat} (h : Mid D K (i + 1)) (hl : i + 1 < D.length) (h2 : ¬ 255 < D.getD (i + 1) 0) : Mid D K i := by
  rw [getD_get _ _ hl] at h2
  refine ⟨h.low, fun j hj hij => ?_, fun hj => ?_, fun j hj hij => h.lt j hj (by omega), fun j hj hij hK => h.far j hj (by omega) hK⟩
  · by_cases hji : j = i + 1
    · subst hji; omega
    · exact h.hi j hj (by omega)
  · have := h.lt i hj (by omega); omega
theorem carF_ok (i : Nat) : ∀ (D : List Int) (K : Nat), Mid D K i → i < D.length → vl D < 256 ^ D.length → ∀ x ∈ carF i D K, 0 ≤ x ∧ x ≤ 255 := by
  induction i with
  | zero =>
    intro D K h hl hv x hx
    have hx' : x ∈ D := hx
    refine ⟨h.low x hx', ?_⟩
    obtain ⟨j, hj, rfl⟩ := List.getElem_of_mem hx'
    by_cases h0 : 0 < j
    · exact h.hi j hj h0
    · obtain rfl : j = 0 := by omega
      cases D with
      | nil => simp at hl
      | cons y l =>
        rw [vl_cons, List.length_cons, Int.pow_succ] at hv
        have hn := vl_nonneg l fun z hz => h.low z (List.mem_cons_of_mem _ hz)
        simp only [List.getElem_cons_zero]
        have hp := pow_pos256 l.length
        generalize (256 : Int) ^ l.length = p at *
        by_cases hy : y ≤ 255
        · exact hy
        · have : 256 * p ≤ y * p := Int.mul_le_mul_of_nonneg_right (by omega) (by omega)
          omega
  | succ i ih =>
    intro D K h hl hv
    unfold carF
    by_cases hc : K ≤ i + 1 ∨ 255 < D.getD (i + 1) 0
    · rw [if_pos hc]
      by_cases h2 : 255 < D.getD (i + 1) 0
      · rw [if_pos h2]
        have hvv : vl ((D.set (i + 1) (D.getD (i + 1) 0 - 256)).set i (D.getD i 0 + 1)) = vl D := by
          have := carF_vl (i + 1) D (i + 1) hl
          unfold carF at this
          rw [if_pos (.inl (Nat.le_refl _)), if_pos h2, carF_vl i _ _ (by simp; omega)] at this
          exact this
        exact ih _ K (h.step hl h2) (by simp; omega) (by rw [hvv]; simpa using hv)
      · rw [if_neg h2]
        exact ih D K (h.skip hl h2) (by omega) hv
    · rw [if_neg hc]
      intro x hx
      refine ⟨h.low x hx, ?_⟩
      obtain ⟨j, hj, rfl⟩ := List.getElem_of_mem hx
      rcases Nat.lt_trichotomy j (i + 1) with h1 | h1 | h1
      · exact h.far j hj h1 (by omega)
      · subst h1
        rw [getD_get _ _ hl] at hc
        omega
      · exact h.hi j hj h1
/-- The last n digits behind K may have grown. -/
structure Adds (D : List Int) (K n : Nat) : Prop where
  low : ∀ x ∈ D, 0 ≤ x
  far : ∀ j (h : j < D.length), j < K + n → D[j] ≤ 255
  top : ∀ x ∈ D, x ≤ 510
theorem Adds.step {D : List Int} {K n : Nat} (h : Adds D K (n + 1)) (hl : K + n < D.length) (a : Int) : Adds (D.set (K + n) (D.getD (K + n) 0 + a % 256)) K n := by
  rw [getD_get _ _ hl]
  have h0 := h.low _ (List.getElem_mem hl)
  have h1 := h.far (K + n) hl (by omega)
  refine ⟨fun x hx => ?_, fun j hj hjn => ?_, fun x hx => ?_⟩
  · rcases List.mem_or_eq_of_mem_set hx with hx | hx
    · exact h.low x hx
    · omega
  · simp at hj
    rw [List.getElem_set_ne (by omega)]
    exact h.far j hj (by omega)
  · rcases List.mem_or_eq_of_mem_set hx with hx | hx
    · exact h.top x hx
    · omega
theorem addF_ok (n : Nat) (hn : n ≤ 4) : ∀ (D : List Int) (K : Nat) (a : Int), D.length = K + 4 → Adds D K n → Adds (addF n D K a) K 0 := by
  induction n with
  | zero => intro D K a hl h; exact h
  | succ n ih =>
    intro D K a hl h
    unfold addF
    exact ih (by omega) _ _ _ (by simpa using hl) (h.step (by omega) a)
theorem Adds.mid {D : List Int} {K : Nat} (h : Adds D K 0) (hl : D.length = K + 4) : Mid D K (K + 3) :=
  ⟨h.low, fun j hj hij => by omega, fun hj => by have := h.top _ (List.getElem_mem hj); omega, fun j hj _ => h.top _ (List.getElem_mem hj), fun j hj _ hK => h.far j hj (by omega)⟩
end Go.Proofs.Ytlbjoflmfboeeaa.Dig

/-
  The document's encoder: what it holds, and the walks of New, power, Put; no condition but those told.
-/
set_option linter.unusedVariables false
set_option linter.unusedSimpArgs false
namespace Go.Proofs.Ytlbjoflmfboeeaa.Enc
open Go.RowKit Go.Proofs.Ytlbjoflmfboeeaa Go.Proofs.YtlbjoflmfboeeaaW.PrintWords Go.Proofs.Ytlbjoflmfboeeaa.Dig

structure RSt where
  D : List Int
  S : Int
  K : Nat
def rstep (R : RSt) : RSt := ⟨R.D ++ [0], R.S * 256, R.K + 1⟩
def rnorm : Nat → RSt → RSt
  | 0, R => R
  | n + 1, R => if R.S < 16777216 then rnorm n (rstep R) else R
def rputS (R : RSt) (lo ow al : Int) : RSt := rnorm 2 ⟨carF (R.K + 3) (addF 4 R.D R.K (R.S / al * lo)) R.K, R.S / al * ow, R.K⟩
structure RGood (R : RSt) : Prop where
  len : R.D.length = R.K + 4
  dig : ∀ x ∈ R.D, 0 ≤ x ∧ x ≤ 255
  s0 : 16777216 ≤ R.S
  s1 : R.S < 4294967296
  val : vl R.D + R.S ≤ 256 ^ (R.K + 4)
theorem rnorm_good (n : Nat) (hn : n ≤ 2) : ∀ (R : RSt), R.D.length = R.K + 4 → (∀ x ∈ R.D, 0 ≤ x ∧ x ≤ 255) → lw n ≤ R.S → R.S < 4294967296 → vl R.D + R.S ≤ 256 ^ (R.K + 4) → RGood (rnorm n R) ∧ R.K ≤ (rnorm n R).K ∧ (rnorm n R).K ≤ R.K + n := by
  induction n with
  | zero => intro R h1 h2 h3 h4 h5; exact ⟨⟨h1, h2, h3, h4, h5⟩, Nat.le_refl _, Nat.le_refl _⟩
  | succ n ih =>
    intro R h1 h2 h3 h4 h5
    unfold rnorm
    by_cases hc : R.S < 16777216
    · rw [if_pos hc]
      have hlw2 : lw n ≤ R.S * 256 := by
        rcases (show n = 0 ∨ n = 1 by omega) with h | h
        · subst h; have : (65536 : Int) ≤ R.S := h3; show (16777216 : Int) ≤ _; omega
        · subst h; have : (256 : Int) ≤ R.S := h3; show (65536 : Int) ≤ _; omega
      obtain ⟨r1, r2, r3⟩ := ih (by omega) (rstep R) (by simp [rstep, h1]) (fun x hx => by
        rcases List.mem_append.1 hx with hx | hx
        · exact h2 x hx
        · simp at hx; omega) hlw2 (by show R.S * 256 < 4294967296; omega) (by
        show vl (R.D ++ [0]) + R.S * 256 ≤ 256 ^ (R.K + 1 + 4)
        rw [vl_snoc, show R.K + 1 + 4 = R.K + 4 + 1 from by omega, Int.pow_succ]
        omega)
      have hk : (rstep R).K = R.K + 1 := rfl
      exact ⟨r1, by omega, by omega⟩
    · rw [if_neg hc]
      exact ⟨⟨h1, h2, by omega, h4, h5⟩, Nat.le_refl _, by omega⟩
theorem adds_of {D : List Int} (h : ∀ x ∈ D, 0 ≤ x ∧ x ≤ 255) (K n : Nat) : Adds D K n :=
  ⟨fun x hx => (h x hx).1, fun j hj _ => (h _ (List.getElem_mem hj)).2, fun x hx => by have := (h x hx).2; omega⟩
theorem mid_of {R : RSt} (g : RGood R) (a : Int) : Mid (addF 4 R.D R.K a) R.K (R.K + 3) := by
  have h := addF_ok 4 (by omega) R.D R.K a g.len (adds_of g.dig _ _)
  exact h.mid (by rw [addF_len]; exact g.len)
theorem rput_good {R : RSt} (g : RGood R) {lo ow al : Int} (may : May lo ow al) : RGood (rputS R lo ow al) ∧ R.K ≤ (rputS R lo ow al).K ∧ (rputS R lo ow al).K ≤ R.K + 2 := by
  obtain ⟨p0, p1, p2, p3⟩ := may
  obtain ⟨each, hE⟩ : ∃ each, each = R.S / al := ⟨_, rfl⟩
  have s0 := g.s0
  have s1 := g.s1
  have b3 := each_lo al R.S (by omega) p3 s0
  have b1 := mul_bd each lo al R.S hE (by omega) p0 (by omega) (by omega)
  have b2 := mul_bd each ow al R.S hE (by omega) (by omega) (by omega) (by omega)
  have b6 := mul_bd each (lo + ow) al R.S hE (by omega) (by omega) (by omega) (by omega)
  rw [Int.mul_add] at b6
  have b4 : each * 1 ≤ each * ow := Int.mul_le_mul_of_nonneg_left p1 (by omega)
  rw [Int.mul_one] at b4
  have hv : vl (addF 4 R.D R.K (each * lo)) = vl R.D + each * lo := by
    have := addF_vl 4 (by omega) R.D R.K (each * lo) g.len b1.1 (by show each * lo < 4294967296; omega)
    simpa using this
  have hl : (addF 4 R.D R.K (each * lo)).length = R.K + 4 := by rw [addF_len]; exact g.len
  have hgv := g.val
  have hlt : vl (addF 4 R.D R.K (each * lo)) < 256 ^ (addF 4 R.D R.K (each * lo)).length := by
    rw [hv, hl]; omega
  have hok := carF_ok (R.K + 3) _ R.K (mid_of g (each * lo)) (by omega) hlt
  have hcv := carF_vl (R.K + 3) (addF 4 R.D R.K (each * lo)) R.K (by omega)
  unfold rputS
  rw [← hE] at b3 ⊢
  exact rnorm_good 2 (by omega) ⟨carF (R.K + 3) (addF 4 R.D R.K (each * lo)) R.K, each * ow, R.K⟩ (by simp only; rw [carF_len]; exact hl) hok (by show (256 : Int) ≤ each * ow; omega) (by simp only; omega) (by simp only; rw [hcv, hv]; omega)
/-- The document's encoder: block m, its digits in block g. -/
structure RIs (w : World) (m : Nat) (R : RSt) (g cap : Nat) : Prop where
  blk : Blk w m 56 #[.slice (some ⟨g, 0, none⟩) R.D.length cap, .int .i64 R.S, .int .i64 R.K]
  row : RowI w 3 .i64 g cap R.D
  ne : m ≠ g
structure RStep (m g g' : Nat) (w w' : World) : Prop where
  only : Only (fun k => k = m ∨ k = g) w w'
  own : g' = g ∨ w.heap.size ≤ g'
theorem RStep.refl (m g : Nat) (w : World) : RStep m g g w w := ⟨Only.refl _ _, .inl rfl⟩
theorem RStep.trans {m g g' g'' : Nat} {w w' w'' : World} (a : RStep m g g' w w') (b : RStep m g' g'' w' w'') : RStep m g g'' w w'' := by
  refine ⟨a.only.then b.only fun i hi => ?_, ?_⟩
  · rcases hi with hi | hi
    · exact .inl (.inl hi)
    · rcases a.own with h | h
      · exact .inl (.inr (hi.trans h))
      · exact .inr (by omega)
  · rcases b.own with h | h
    · rw [h]; exact a.own
    · exact .inr (Nat.le_trans a.only.size h)
theorem RStep.drew {m g g' : Nat} {w w' : World} (a : RStep m g g' w w') : RStep m g g' w w'.drew := ⟨a.only.drew, a.own⟩
theorem RStep.setm {m g g' : Nat} {w w' : World} (a : RStep m g g' w w') (i : Nat) (u : Value) : RStep m g g' w (w'.setCell ⟨m, i, none⟩ u) := ⟨a.only.set (p := ⟨m, i, none⟩) (.inl (.inl rfl)) u, a.own⟩
theorem RStep.setg {m g g' : Nat} {w w' : World} (a : RStep m g g' w w') (i : Nat) (u : Value) : RStep m g g' w (w'.setCell ⟨g', i, none⟩ u) :=
  ⟨a.only.set (p := ⟨g', i, none⟩) (a.own.imp (fun h => .inr h) id) u, a.own⟩
theorem RIs.only {S : Nat → Prop} {w w' : World} {m g cap : Nat} {R : RSt} (a : RIs w m R g cap) (o : Only S w w') (h1 : ¬ S m) (h2 : ¬ S g) : RIs w' m R g cap :=
  ⟨a.blk.of_same (o.block m a.blk.lt h1), a.row.of_same (o.block g a.row.lt h2), a.ne⟩
def rfresh : RSt := ⟨[0, 0, 0, 0], 4294967295, 0⟩
theorem rfresh_good : RGood rfresh := ⟨rfl, by decide, by decide, by decide, by decide⟩
theorem RNew_calls (w : World) : Calls Try.prog 26 #[] w fun e w' => e = .returned (.pointer (some ⟨w.heap.size + 1, 0, none⟩)) ∧ RIs w' (w.heap.size + 1) rfresh w.heap.size 4 ∧ Below w.heap.size w w' := by
  go_enter Try.func26, Try.ntmps26
  go_wp2
  go_ret
  refine ⟨rfl, ⟨Blk.new_at _ _ (by simp), ⟨_, (Blk.new w _ _).alloc _, by decide, by decide, rfl, fun i h => ?_⟩, by omega⟩, (((Below.refl _ _).alloc (Nat.le_refl _) _).alloc (by simp) _ : Below _ _ _)⟩
  have : i < 4 := h
  match i, this with
  | 0, _ => rfl
  | 1, _ => rfl
  | 2, _ => rfl
  | 3, _ => rfl
theorem power_calls (k : Nat) (hk : k ≤ 60) (w : World) : Calls Try.prog 65 #[.int .i64 k] w fun e w' => e = .returned (.int .i64 (2 ^ k)) ∧ w' = w := by
  go_enter Try.func65, Try.ntmps65
  go_wp2
  go_loop [3, 4] (fun v i => ∃ j : Nat, j ≤ k ∧ i = .int .i64 (j : Int) ∧ v = .int .i64 (2 ^ j)) (fun _ i => k - (intOf i).toNat)
  case atStart => exact ⟨0, by omega, rfl, rfl⟩
  case round =>
    obtain ⟨j, hj, rfl, rfl⟩ := hrel
    by_cases hlt : j < k
    · have h4 := Nat.pow_le_pow_right (show 0 < 2 by decide) (show j ≤ 60 by omega)
      have h5 : (2 : Int) ^ j ≤ 2 ^ 60 := by exact_mod_cast h4
      have e60 : (2 : Int) ^ 60 = 1152921504606846976 := by decide
      have h6 : (0 : Int) < 2 ^ j := Int.pow_pos (by omega)
      have HP := Lib.hid (Int.pow_succ (2 : Int) j)
      rw [e60] at h5
      clear h4 e60
      generalize (2 : Int) ^ j = p at *
      go_wp2
      go_round
      case rel => exact ⟨j + 1, by omega, by push_cast; rfl, by rw [HP.out]⟩
      case measure => simp [intOf]; omega
    · obtain rfl : j = k := by omega
      go_wp2
      go_ret
      exact ⟨rfl, rfl⟩
end Go.Proofs.Ytlbjoflmfboeeaa.Enc

/-
  The walk of the document's Put; no condition but those told.
-/
set_option linter.unusedVariables false
set_option linter.unusedSimpArgs false
namespace Go.Proofs.Ytlbjoflmfboeeaa.Enc
open Go.RowKit Go.Proofs.Ytlbjoflmfboeeaa Go.Proofs.YtlbjoflmfboeeaaW.PrintWords Go.Proofs.Ytlbjoflmfboeeaa.Dig

theorem wrapN {x : Int} (n : Nat) (h : x = n) (hn : n < 9223372036854775808) : IntKind.i64.wrap x = (n : Int) := by rw [h]; exact wrapI64 (by omega) (by omega)
theorem addF_step (n : Nat) (D : List Int) (K : Nat) (a : Int) : addF (n + 1) D K a = addF n (D.set (K + n) (D.getD (K + n) 0 + a % 256)) K (a / 256) := rfl
theorem addF_none (D : List Int) (K : Nat) (a : Int) : addF 0 D K a = D := rfl
theorem carF_none (D : List Int) (K : Nat) : carF 0 D K = D := rfl
theorem carF_stop (i : Nat) (D : List Int) (K : Nat) (h : ¬ (K ≤ i + 1 ∨ 255 < D.getD (i + 1) 0)) : carF (i + 1) D K = D := by unfold carF; rw [if_neg h]
theorem carF_over (i : Nat) (D : List Int) (K : Nat) (h : 255 < D.getD (i + 1) 0) : carF (i + 1) D K = carF i ((D.set (i + 1) (D.getD (i + 1) 0 - 256)).set i (D.getD i 0 + 1)) K := by
  rw [carF, if_pos (.inr h), if_pos h]
theorem carF_on (i : Nat) (D : List Int) (K : Nat) (h : ¬ 255 < D.getD (i + 1) 0) (hk : K ≤ i + 1) : carF (i + 1) D K = carF i D K := by
  rw [carF, if_pos (.inl hk), if_neg h]
attribute [local irreducible] addF carF
set_option maxHeartbeats 4000000 in
set_option maxRecDepth 100000 in
theorem RPut_yes {w : World} {m : Nat} {R : RSt} {g cap : Nat} (a : RIs w m R g cap) (ok : RGood R) (small : R.K ≤ 900000000) (lo ow al : Int) (may : May lo ow al) :
    Calls Try.prog 30 #[.pointer (some ⟨m, 0, none⟩), .int .i64 lo, .int .i64 ow, .int .i64 al] w fun e w' => ∃ g' cap', e = .returned (.tuple #[]) ∧ RIs w' m (rputS R lo ow al) g' cap' ∧ RStep m g g' w w' := by
  have HM := Lib.hid (mid_of ok (R.S / al * lo))
  have OK := Lib.hid ok
  have A := Lib.hid a
  obtain ⟨p0, p1, p2, p3⟩ := may
  obtain ⟨each, hE⟩ : ∃ each, each = R.S / al := ⟨_, rfl⟩
  obtain ⟨q, hq⟩ : ∃ q, q = each * lo := ⟨_, rfl⟩
  obtain ⟨r, hr⟩ : ∃ r, r = each * ow := ⟨_, rfl⟩
  have b1 := mul_bd each lo al R.S hE (by omega) p0 (by omega) (by have := ok.s0; omega)
  have b2 := mul_bd each ow al R.S hE (by omega) (by omega) (by omega) (by have := ok.s0; omega)
  have b3 := each_lo al R.S (by omega) p3 ok.s0
  have b4 : each * 1 ≤ each * ow := Int.mul_le_mul_of_nonneg_left p1 (by rw [hE]; omega)
  rw [Int.mul_one] at b4
  rw [← hE] at b3
  rw [← hq] at b1
  rw [← hr] at b2 b4
  have HPut : Hid (rputS R lo ow al = rnorm 2 ⟨carF (R.K + 3) (addF 4 R.D R.K q) R.K, r, R.K⟩) := Lib.hid (by unfold rputS; rw [hq, hr, hE])
  rw [← hE, ← hq] at HM
  have e1 : Int.tdiv R.S al = each := by rw [hE, Int.tdiv_eq_ediv_of_nonneg (by have := ok.s0; omega)]
  have e1' : R.S / al = each := hE.symm
  have e2 : each * lo = q := hq.symm
  have e3 : each * ow = r := hr.symm
  have s0 := ok.s0
  have s1 := ok.s1
  have d0 := a.blk.cell (i := 0) rfl
  have d1 := a.blk.cell (i := 1) rfl
  have d2 := a.blk.cell (i := 2) rfl
  have hlen := ok.len
  have hne := a.ne
  have z1 : al ≠ 0 := by omega
  have z2 : (al == 0) = false := by rw [beq_eq_false_iff_ne]; omega
  have b5 : each ≤ R.S := by rw [hE]; exact Int.ediv_le_self _ (by omega)
  obtain ⟨len, hle⟩ : ∃ len, len = R.K + 4 := ⟨_, rfl⟩
  rw [← hle] at hlen
  rw [hlen] at d0
  have HL := Lib.hid hlen
  obtain ⟨D, S, K⟩ := R
  simp only at *
  clear hE hq hr a ok hlen
  have HLe := Lib.hid hle
  have hle1 : K + 4 ≤ len := by omega
  have hle2 : len ≤ K + 4 := by omega
  clear hle
  go_enter Try.func30, Try.ntmps30
  go_wp2
  clear e1 e1' e2 d0 d1 d2
  go_loopw [9, 10] (fun va vi wr => ∃ (n : Nat) (E : List Int) (x z : Int), n ≤ 4 ∧ vi = .int .i64 z ∧ z + 1 = (n : Int) ∧ va = .int .i64 x ∧ 0 ≤ x ∧ x < 4294967296 ∧ Hid (addF n E K x = addF 4 D K q) ∧ Hid (E.length = len) ∧ Hid (Adds E K n) ∧ Hid (RIs wr m ⟨E, S, K⟩ g cap) ∧ Hid (RStep m g g w wr)) (fun _ vi _ => (intOf vi + 1).toNat)
  case atStart => exact ⟨4, D, q, 3, by omega, rfl, rfl, rfl, by omega, by omega, rfl, HL, adds_of OK.out.dig _ _, A, RStep.refl m g w⟩
  case round =>
    clear A
    obtain ⟨n, E, x, z, hn, rfl, hz1, rfl, hx0, hx1, HA, HE, HAd, A, S0⟩ := hrel
    have d0 := A.out.blk.cell (i := 0) rfl
    have d2 := A.out.blk.cell (i := 2) rfl
    have f2 := A.out.blk.free 2
    simp only at d0 d2
    rw [HE.out] at d0
    by_cases hz : 0 < n
    · obtain ⟨i, rfl⟩ : ∃ i, n = i + 1 := ⟨n - 1, by omega⟩
      obtain rfl : z = (i : Int) := by omega
      clear hz1
      obtain ⟨ix, hix⟩ : ∃ ix, ix = K + i := ⟨_, rfl⟩
      have e5 : IntKind.i64.wrap ((K : Int) + (i : Int)) = (ix : Int) := wrapN ix (by omega) (by omega)
      have hixl : ix < E.length := by rw [HE.out]; omega
      have c1 := A.out.row.cell hixl
      have f1 := A.out.row.free ix
      have ixb : (ix : Int) < (len : Int) := by omega
      have hy0 := HAd.out.low _ (List.getElem_mem hixl)
      have hy1 := HAd.out.top _ (List.getElem_mem hixl)
      have hgd := getD_get E ix hixl
      generalize E[ix]'hixl = y at *
      have e6 : Int.tmod x 256 = x % 256 := Int.tmod_eq_emod_of_nonneg hx0
      have e7 : IntKind.i64.wrap (x % 256) = x % 256 := wrapI64 (by omega) (by omega)
      have e8 : IntKind.i64.wrap (y + x % 256) = y + x % 256 := wrapI64 (by omega) (by omega)
      have HSt := Lib.hid (addF_step i E K x)
      have HAn := Lib.hid (HAd.out.step (by rw [HE.out]; omega) x)
      rw [← hix] at HSt HAn
      rw [hgd] at HSt HAn
      have HIX := Lib.hid hix
      clear hix hgd hixl
      go_wp2
      go_still_tail 26, (by kernel_rfl)
      go_wp2
      go_roundw
      case rel => exact ⟨i, E.set ix (y + x % 256), x / 256, (i : Int) - 1, by omega, rfl, by omega, rfl, by omega, by omega, HSt.out.symm.trans HA.out, by show _ = _; rw [List.length_set]; exact HE.out, HAn.out, ⟨by rw [List.length_set]; exact (A.out.blk.other (a := ⟨g, ix, none⟩) hne _).drew, (A.out.row.set ix _).drew, hne⟩, (S0.out.setg ix _).drew⟩
      case measure => simp [intOf]
    · obtain rfl : n = 0 := by omega
      obtain rfl : z = -1 := by omega
      have HA0 : Hid (E = addF 4 D K q) := Lib.hid ((addF_none E K x).symm.trans HA.out)
      rw [← HA0.out] at HPut HM
      clear hz1 HA HAd
      go_upto_block 2 with (fail)
      go_cut [] (fun wc => Hid (RIs wc m ⟨carF (K + 3) E K, S, K⟩ g cap) ∧ Hid (RStep m g g w wc))
      case first =>
        go_wp2
        go_loopw [11] (fun vi wr => ∃ (i : Nat) (F : List Int), i ≤ K + 3 ∧ vi = .int .i64 (i : Int) ∧ Hid (carF i F K = carF (K + 3) E K) ∧ Hid (F.length = len) ∧ Hid (Mid F K i) ∧ Hid (RIs wr m ⟨F, S, K⟩ g cap) ∧ Hid (RStep m g g w wr)) (fun vi _ => (intOf vi).toNat)
        case atStart => exact ⟨K + 3, E, Nat.le_refl _, by go_num, rfl, HE, HM, A, S0⟩
        case round =>
          clear A S0 d0 d2 f2 HM HE
          obtain ⟨i, F, hi, rfl, HC, HF, HMi, A, S0⟩ := hrel
          have d0 := A.out.blk.cell (i := 0) rfl
          have d1 := A.out.blk.cell (i := 1) rfl
          have d2 := A.out.blk.cell (i := 2) rfl
          have f1 := A.out.blk.free 1
          simp only at d0 d1 d2
          rw [HF.out] at d0
          by_cases h0 : 0 < i
          · obtain ⟨j, hj⟩ : ∃ j, i = j + 1 := ⟨i - 1, by omega⟩
            have il : i < F.length := by rw [HF.out]; omega
            have jl : j < F.length := by rw [HF.out]; omega
            have c1 := A.out.row.cell il
            have g1 := A.out.row.free i
            have gd1 := getD_get F i il
            have ib : (i : Int) < (len : Int) := by omega
            have jb : (j : Int) < (len : Int) := by omega
            have y0 := HMi.out.low _ (List.getElem_mem il)
            have y1 := HMi.out.at_ il
            have x0 := HMi.out.low _ (List.getElem_mem jl)
            have x1 := HMi.out.lt j jl (by omega)
            have gd2 := getD_get F j jl
            generalize F[i]'il = y at *
            by_cases hy : 255 < y
            · have HCo := Lib.hid (carF_over j F K (by rw [← hj, gd1]; exact hy))
              have HMn : Hid (Mid ((F.set i (y - 256)).set j (F.getD j 0 + 1)) K j) := by
                have := Mid.step (i := j) (by rw [← hj]; exact HMi.out) (by omega) (by rw [← hj, gd1]; exact hy)
                rw [← hj, gd1] at this
                exact this
              rw [← hj, gd1, gd2] at HCo
              rw [gd2] at HMn
              have CJ : Hid ((wr.setCell ⟨g, i, none⟩ (.int .i64 (y - 256))).drew.cell? ⟨g, j, none⟩ = some (.int .i64 (F[j]'jl))) := by
                have h1 := ((A.out.row.set i (y - 256)).drew).cell (i := j) (by rw [List.length_set]; exact jl)
                rw [List.getElem_set_ne (by omega)] at h1
                exact h1
              have cj := A.out.row.cell jl
              generalize F[j]'jl = x2 at *
              have e4 : IntKind.i64.wrap (y - 256) = y - 256 := wrapI64 (by omega) (by omega)
              have e5 : IntKind.i64.wrap (x2 + 1) = x2 + 1 := wrapI64 (by omega) (by omega)
              have e6 : IntKind.i64.wrap ((i : Int) - 1) = (j : Int) := wrapN j (by omega) (by omega)
              have A2 : Hid (RowI (wr.setCell ⟨g, i, none⟩ (.int .i64 (y - 256))).drew 3 .i64 g cap (F.set i (y - 256))) := Lib.hid (A.out.row.set i (y - 256)).drew
              have B2 : Hid (Blk (wr.setCell ⟨g, i, none⟩ (.int .i64 (y - 256))).drew m 56 #[.slice (some ⟨g, 0, none⟩) F.length cap, .int .i64 S, .int .i64 K]) := Lib.hid (A.out.blk.other (a := ⟨g, i, none⟩) hne (.int .i64 (y - 256))).drew
              have S2 := Lib.hid (S0.out.setg i (.int .i64 (y - 256))).drew
              have HJ := Lib.hid hj
              clear gd1 gd2 hj
              by_cases hk : K ≤ i
              all_goals
                go_wp2
                go_still_tail 14, (by kernel_rfl)
                go_wp2
                clear d0 d1 d2 c1 g1 cj f1 A S0
                generalize (wr.setCell ⟨g, i, none⟩ (.int .i64 (y - 256))).drew = w2 at *
                have d0 := B2.out.cell (i := 0) rfl
                have cj := CJ.out
                have gj := A2.out.free j
                rw [HF.out] at d0
                go_still_tail 16, (by kernel_rfl)
                go_wp2
                go_roundw
                case rel =>
                  exact ⟨j, (F.set i (y - 256)).set j (x2 + 1), by have := HJ.out; omega, rfl, HCo.out.symm.trans HC.out, by show _ = _; rw [List.length_set, List.length_set]; exact HF.out, HMn, ⟨by rw [List.length_set, List.length_set]; exact (B2.out.other (a := ⟨g, j, none⟩) hne _).drew, (A2.out.set j _).drew, hne⟩, (S2.out.setg j _).drew⟩
                case measure => simp [intOf]; have := HJ.out; omega
            · by_cases hk : K ≤ i
              · have HCo := Lib.hid (carF_on j F K (by rw [← hj, gd1]; exact hy) (by omega))
                have HMn : Hid (Mid F K j) := Lib.hid (Mid.skip (i := j) (by rw [← hj]; exact HMi.out) (by omega) (by rw [← hj, gd1]; exact hy))
                rw [← hj] at HCo
                have e6 : IntKind.i64.wrap ((i : Int) - 1) = (j : Int) := wrapN j (by omega) (by omega)
                have HJ := Lib.hid hj
                have e7 : (i : Int) - 1 = (j : Int) := by omega
                clear gd1 gd2 hj
                go_wp2
                go_roundw
                case rel => exact ⟨j, F, by have := HJ.out; omega, rfl, HCo.out.symm.trans HC.out, HF, HMn, A, S0⟩
                case measure => simp [intOf]; have := HJ.out; omega
              · have HCo := Lib.hid (carF_stop j F K (by rw [← hj, gd1]; omega))
                rw [← hj] at HCo
                have HFin : Hid (F = carF (K + 3) E K) := Lib.hid (HCo.out.symm.trans HC.out)
                clear gd1 gd2 hj HC HCo HMi
                go_wp2
                go_meet
                rw [← HFin.out]
                exact ⟨A, S0⟩
          · obtain rfl : i = 0 := by omega
            have HFin : Hid (F = carF (K + 3) E K) := Lib.hid ((carF_none F K).symm.trans HC.out)
            clear HC HMi
            go_wp2
            go_meet
            rw [← HFin.out]
            exact ⟨A, S0⟩
      case rest =>
        clear A S0 d0 d2 f2 HM
        obtain ⟨A, S0⟩ := hcut
        have HCl : Hid ((carF (K + 3) E K).length = len) := Lib.hid (by rw [carF_len]; exact HE.out)
        generalize carF (K + 3) E K = F at *
        clear HE
        have f1 := A.out.blk.free 1
        have d1 := A.out.blk.cell (i := 1) rfl
        have A1 : Hid (RIs (wc.setCell ⟨m, 1, none⟩ (.int .i64 r)) m ⟨F, r, K⟩ g cap) := Lib.hid ⟨A.out.blk.set 1 _, A.out.row.other (a := ⟨m, 1, none⟩) (Ne.symm hne) _, hne⟩
        have S1 := Lib.hid (S0.out.setm 1 (.int .i64 r))
        go_wp2
        clear A S0 d1 f1
        go_loopg [] 2 (fun j wr => ∃ (T : RSt) (g' cap' : Nat), j ≤ 2 ∧ lw j ≤ T.S ∧ T.S < 4294967296 ∧ T.K + j ≤ 900000002 ∧ Hid (rnorm j T = rputS ⟨D, S, K⟩ lo ow al) ∧ Hid (T.D.length = T.K + 4) ∧ Hid (RIs wr m T g' cap') ∧ Hid (RStep m g g' w wr))
        case atStart => exact ⟨⟨F, r, K⟩, g, cap, Nat.le_refl _, by show (256 : Int) ≤ r; omega, by simp only; omega, by simp only; omega, HPut.out.symm, by show F.length = K + 4; rw [HCl.out]; omega, A1, S1⟩
        case round =>
          clear A1 S1 HPut HCl
          obtain ⟨T, g', cap', hj2, hlw, hS1, hTK, HN, HTl, A, S0⟩ := hrel
          have d0 := A.out.blk.cell (i := 0) rfl
          have d1 := A.out.blk.cell (i := 1) rfl
          have d2 := A.out.blk.cell (i := 2) rfl
          have f0 := A.out.blk.free 0
          have f1 := A.out.blk.free 1
          have f2 := A.out.blk.free 2
          have hml := A.out.blk.lt
          have hne2 := A.out.ne
          rw [HTl.out] at d0
          by_cases hc : T.S < 16777216
          · have hg : 0 < gk := by
              rcases Nat.eq_zero_or_pos gk with h | h
              · subst h; have : (16777216 : Int) ≤ T.S := hlw; omega
              · exact h
            obtain ⟨j, rfl⟩ : ∃ j, gk = j + 1 := ⟨gk - 1, by omega⟩
            have HSt : Hid (rnorm (j + 1) T = rnorm j (rstep T)) := Lib.hid (by show (if T.S < 16777216 then rnorm j (rstep T) else T) = _; rw [if_pos hc])
            have hlw2 : lw j ≤ T.S * 256 := by
              rcases (show j = 0 ∨ j = 1 by omega) with h | h
              · subst h; have : (65536 : Int) ≤ T.S := hlw; show (16777216 : Int) ≤ _; omega
              · subst h; have : (256 : Int) ≤ T.S := hlw; show (65536 : Int) ≤ _; omega
            have hT0 : 0 ≤ T.S := by
              rcases (show j = 0 ∨ j = 1 by omega) with h | h
              · subst h; have : (65536 : Int) ≤ T.S := hlw; omega
              · subst h; have : (256 : Int) ≤ T.S := hlw; omega
            obtain ⟨TD, TS, TK⟩ := T
            simp only at *
            have A1 : Hid (Blk ((wr.setCell ⟨m, 1, none⟩ (.int .i64 (TS * 256))).setCell ⟨m, 2, none⟩ (.int .i64 ((TK : Int) + 1))) m 56 #[.slice (some ⟨g', 0, none⟩) (TK + 4) cap', .int .i64 (TS * 256), .int .i64 ((TK : Int) + 1)]) := Lib.hid (by
              have := (A.out.blk.set 1 (.int .i64 (TS * 256))).set 2 (.int .i64 ((TK : Int) + 1))
              simp only at this
              rw [HTl.out] at this
              exact this)
            have R1 : Hid (RowI ((wr.setCell ⟨m, 1, none⟩ (.int .i64 (TS * 256))).setCell ⟨m, 2, none⟩ (.int .i64 ((TK : Int) + 1))) 3 .i64 g' cap' TD) := Lib.hid ((A.out.row.other (a := ⟨m, 1, none⟩) (Ne.symm hne2) _).other (a := ⟨m, 2, none⟩) (Ne.symm hne2) _)
            have S1 : Hid (RStep m g g' w ((wr.setCell ⟨m, 1, none⟩ (.int .i64 (TS * 256))).setCell ⟨m, 2, none⟩ (.int .i64 ((TK : Int) + 1)))) := Lib.hid ((S0.out.setm 1 _).setm 2 _)
            have hrl := R1.out.lt
            have SL := Lib.hid (Sl.row R1.out)
            rw [HTl.out] at SL
            clear hlw A S0
            go_wp2_with (first
              | (at_builtin; refine wpList_push (.tmp 149) (.tmp 150) 54 3 .i64 0 8 rfl rfl Try.underlying54 Mdl.info_int (.slice (some ⟨g', 0, none⟩) (TK + 4) cap') TD (TK + 4) 0 ⟨wr.heap.size, 0, none⟩ (wr.heap.size + 1) rfl rfl ?_ HTl.out ?_ ?_ ?_ ?_ ?_
                 · exact SL.out.alloc _
                 · exact (Blk.new_at _ _ (by simp [World.setCell])).cell (i := 0) rfl
                 · simp [World.setCell]
                 · omega
                 · omega
                 intro g2 cap2 w2 hp
                 have b2 := (A1.out.alloc (.cells #[.int .i64 0] 3)).of_same (hp.block (by have := A1.out.lt; simp at this ⊢; omega) (fun e => hne2 (Option.some.inj e).symm))
                 have x0 := b2.cell (i := 0) rfl
                 have y0 := b2.free 0
                 have B2 := Lib.hid b2
                 have HP := Lib.hid hp
                 clear hp b2))
            go_roundg j
            case measure => omega
            case rel =>
              have hgm : g2 ≠ m := by
                rcases HP.out.at_ with h | h
                · have e : g' = g2 := Option.some.inj h
                  omega
                · omega
              have eT : (TD ++ [0]).length = TK + 4 + 1 := by rw [List.length_append, HTl.out]; rfl
              have eK : ((TK : Int) + 1) = ((TK + 1 : Nat) : Int) := by omega
              refine ⟨⟨TD ++ [0], TS * 256, TK + 1⟩, g2, cap2, by omega, hlw2, by simp only; omega, by simp only; omega, HSt.out.symm.trans HN.out, by show (TD ++ [0]).length = TK + 1 + 4; omega, ⟨?_, HP.out.row.other (a := ⟨m, 0, none⟩) hgm _, fun e => hgm e.symm⟩, ?_⟩
              · have := B2.out.set 0 (.slice (some ⟨g2, 0, none⟩) (TK + 4 + 1) cap2)
                simp only
                rw [eT, ← eK]
                exact this
              · have st : RStep m g' g2 ((wr.setCell ⟨m, 1, none⟩ (.int .i64 (TS * 256))).setCell ⟨m, 2, none⟩ (.int .i64 ((TK : Int) + 1))) w2 := by
                  refine ⟨((Only.refl _ _).alloc _).then HP.out.only (fun i hi => .inl (.inr (Option.some.inj hi).symm)), ?_⟩
                  rcases HP.out.at_ with h | h
                  · exact .inl (Option.some.inj h).symm
                  · refine .inr ?_
                    simp [World.setCell]; omega
                exact (S1.out.trans st).setm 0 _
          · have HF2 : Hid (rputS ⟨D, S, K⟩ lo ow al = T) := Lib.hid (HN.out.symm.trans (by
              cases gk with
              | zero => rfl
              | succ j => show (if T.S < 16777216 then rnorm j (rstep T) else T) = _; rw [if_neg hc]))
            clear HN
            go_wp2
            rw [HF2.out]
            exact bodyPost_end (results_none rfl _ _ _) rfl ⟨rfl, g', ⟨cap', A.out⟩, S0.out⟩
end Go.Proofs.Ytlbjoflmfboeeaa.Enc

/-
  The walks of the document's encoder: Symbol, Bits, Bytes; no condition but those told.
-/
set_option linter.unusedVariables false
set_option linter.unusedSimpArgs false
namespace Go.Proofs.Ytlbjoflmfboeeaa.Enc
open Go.RowKit Go.Proofs.Ytlbjoflmfboeeaa Go.Proofs.YtlbjoflmfboeeaaW.PrintWords Go.Proofs.Ytlbjoflmfboeeaa.Dig

def rsymS (R : RSt) (L : List Int) (k : Nat) : RSt := rputS R (Mdl.lsum (L.take k)) (L.getD k 0) (Mdl.lsum L)
def rbitsS (R : RSt) (n : Int) (w : Nat) : RSt :=
  if w = 0 then R else if w ≤ 12 then rputS R (n % 2 ^ w) 1 (2 ^ w) else rputS (rputS R (n / 2 ^ (w - 12) % 4096) 1 4096) (n % 2 ^ (w - 12)) 1 (2 ^ (w - 12))
theorem rbits_step (t : RSt) (n : Int) (j i : Nat) (hi : j = i + 12) (h0 : 0 < i) (h12 : i ≤ 12) : rbitsS t n j = rbitsS (rputS t (n / 2 ^ i % 4096) 1 4096) n i := by
  unfold rbitsS
  rw [if_neg (by omega), if_neg (by omega), if_neg (by omega), if_pos (by omega), show j - 12 = i from by omega]
theorem rbits_last (t : RSt) (n : Int) (j : Nat) (h0 : 0 < j) (h12 : j ≤ 12) : rbitsS t n j = rputS t (n % 2 ^ j) 1 (2 ^ j) := by
  unfold rbitsS
  rw [if_neg (by omega), if_pos h12]
theorem rbits_nought (t : RSt) (n : Int) : rbitsS t n 0 = t := by unfold rbitsS; rw [if_pos rfl]
attribute [local irreducible] rbitsS rputS rsymS
theorem RIs.drewN {w : World} {m g cap : Nat} {R : RSt} (a : RIs w m R g cap) (n : Nat) : RIs (w.drewN n) m R g cap := ⟨a.blk.drewN n, a.row.drewN n, a.ne⟩
theorem RStep.below {m g g' : Nat} {w w' w'' : World} (a : RStep m g g' w w') (b : Below w'.heap.size w' w'') : RStep m g g' w w'' :=
  ⟨a.only.then (Only.of_below b : Only (fun _ => False) _ _) fun _ h => h.elim, a.own⟩
set_option maxHeartbeats 2000000 in
set_option maxRecDepth 100000 in
theorem RSymbol_yes {w : World} {e ge ce m h cap : Nat} {R : RSt} {L : List Int} {f : Bool} (a : RIs w e R ge ce) (ok : RGood R) (small : R.K ≤ 900000000) (b : Mdl.IsR w m h cap L f) (good : Mdl.Good L) (k : Nat) (hk : k < L.length)
    (n1 : e ≠ m) (n2 : e ≠ h) (n3 : ge ≠ m) (n4 : ge ≠ h) :
    Calls Try.prog 27 #[.pointer (some ⟨e, 0, none⟩), .pointer (some ⟨m, 0, none⟩), .int .i64 k] w fun en w' => ∃ g' c', en = .returned (.tuple #[]) ∧ RIs w' e (rsymS R L k) g' c' ∧ Mdl.IsR w' m h cap (Mdl.next f L k) f ∧
      Only (fun i => (i = e ∨ i = ge) ∨ (i = m ∨ i = h)) w w' ∧ (g' = ge ∨ w.heap.size ≤ g') := by
  have A := Lib.hid a
  have B := Lib.hid b
  have G := Lib.hid good
  have HK := Lib.hid hk
  have MY := Lib.hid (may_of good k hk)
  have RD := Lib.hid ok
  have lm := b.blk.lt
  have lh := b.row.lt
  have hl64 := good.len2
  have d0 := b.blk.cell (i := 0) rfl
  have dk := b.row.cell hk
  have HSy : Hid (rsymS R L k = rputS R (Mdl.lsum (L.take k)) (L.getD k 0) (Mdl.lsum L)) := Lib.hid (by unfold rsymS; rfl)
  have hall := good.all
  have C1 : Hid (∀ n, Calls Try.prog 63 #[.pointer (some ⟨m, 0, none⟩), .int .i64 k] (w.drewN n) fun e w' => e = .returned (.int .i64 (Mdl.lsum (L.take k))) ∧ w' = w.drewN n) := Lib.hid (fun n => Mdl.RSum_calls (b.drewN n) good.nonneg (by omega) k (by omega) hl64)
  have C2 : Hid (∀ n, Calls Try.prog 63 #[.pointer (some ⟨m, 0, none⟩), .int .i64 L.length] (w.drewN n) fun e w' => e = .returned (.int .i64 (Mdl.lsum (L.take L.length))) ∧ w' = w.drewN n) := Lib.hid (fun n => Mdl.RSum_calls (b.drewN n) good.nonneg (by omega) L.length (by omega) hl64)
  have hg : L.getD k 0 = L[k] := getD_get L k hk
  rw [List.take_of_length_le (Nat.le_refl _)] at C2
  rw [hg] at MY HSy
  obtain ⟨n, hn⟩ : ∃ n, L.length = n := ⟨_, rfl⟩
  rw [hn] at d0 C2 HK
  have ik : (k : Int) < (n : Int) := by omega
  generalize L[k]'hk = ow at *
  generalize Mdl.lsum (L.take k) = lo at *
  generalize Mdl.lsum L = al at *
  have HN := Lib.hid hn
  clear a b good ok hk hg hn
  go_enter Try.func27, Try.ntmps27
  go_wp2
  refine region_quiet_tail 18 (by kernel_rfl) (by kernel_rfl) ?_
  simp only [List.take_succ_cons, List.take_zero, List.drop_succ_cons, List.drop_zero]
  repeat (quiet_step ((go_at_call 63; first | (with_reducible exact Calls.quiet_of_same (C1.out _)) | (with_reducible exact Calls.quiet_of_same (C2.out _)))))
  refine wpQuiet_nil ?_
  rintro _ ⟨nq, rfl⟩
  go_wp2_with (first
    | (go_at_call 30
       refine (RPut_yes (A.out.drewN nq) RD.out small lo ow al MY.out).mono ?_
       rintro e2 w2 ⟨g2, c2, rfl, a2, s2⟩
       have A2 := Lib.hid a2
       have O2 : Hid (Only (fun i => (i = e ∨ i = ge) ∨ (i = m ∨ i = h)) w w2) := Lib.hid ((((Only.refl _ w).drewN nq : Only (fun i => (i = e ∨ i = ge) ∨ (i = m ∨ i = h)) w (w.drewN nq))).then s2.only (fun i hi => .inl (.inl hi)))
       have W2 : Hid (g2 = ge ∨ w.heap.size ≤ g2) := Lib.hid s2.own
       have B2 : Hid (Mdl.IsR w2 m h cap L f) := Lib.hid ((B.out.drewN nq).only s2.only (fun hh => by rcases hh with hh | hh; exact n1 hh.symm; exact n3 hh.symm) (fun hh => by rcases hh with hh | hh; exact n2 hh.symm; exact n4 hh.symm))
       clear a2 s2)
    | (go_at_call 64
       refine (Mdl.RLearn_any B2.out G.out k (by rw [HN.out]; exact HK.out)).mono ?_
       rintro e3 w3 ⟨rfl, b3, o3⟩
       have B3 := Lib.hid b3
       have A3 : Hid (RIs w3 e (rputS R lo ow al) g2 c2) := Lib.hid (A2.out.only o3 (fun hh => by rcases hh with hh | hh; exact n1 hh; exact n2 hh) (fun hh => by
         rcases W2.out with h1 | h1
         · subst h1
           rcases hh with hh | hh
           · exact n3 hh
           · exact n4 hh
         · rcases hh with hh | hh
           · omega
           · omega))
       have O3 : Hid (Only (fun i => (i = e ∨ i = ge) ∨ (i = m ∨ i = h)) w w3) := Lib.hid (O2.out.then o3 (fun i hi => .inl (.inr hi)))
       clear b3 o3))
  rw [HSy.out]
  exact bodyPost_end (results_none rfl _ _ _) rfl ⟨g2, c2, rfl, A3.out, B3.out, O3.out, W2.out⟩
def RPost (e g : Nat) (R : RSt) (w : World) (en : Ending) (w' : World) : Prop := ∃ g' c', en = .returned (.tuple #[]) ∧ RIs w' e R g' c' ∧ RStep e g g' w w'
set_option maxHeartbeats 4000000 in
set_option maxRecDepth 100000 in
theorem RBits_yes {w : World} {e g c : Nat} {R : RSt} (a : RIs w e R g c) (ok : RGood R) (small : R.K ≤ 800000000) (n : Int) (wide : Nat) (h0 : 0 ≤ n) (h1 : n < 2 ^ wide) (h2 : wide ≤ 24) :
    Calls Try.prog 28 #[.pointer (some ⟨e, 0, none⟩), .int .i64 n, .int .i64 wide] w (RPost e g (rbitsS R n wide) w) := by
  have hn32 : n < 16777216 := by
    have h4 := Nat.pow_le_pow_right (show 0 < 2 by decide) h2
    have h5 : (2 : Int) ^ wide ≤ 2 ^ 24 := by exact_mod_cast h4
    have e24 : (2 : Int) ^ 24 = 16777216 := by decide
    omega
  have A := Lib.hid a
  have R0 := Lib.hid ok
  clear a ok
  go_enter Try.func28, Try.ntmps28
  go_wp2
  go_loopw [2] (fun u wr => ∃ (j : Nat) (t : RSt) (g' c' : Nat), j ≤ 24 ∧ u = .int .i64 (j : Int) ∧ Hid (rbitsS t n j = rbitsS R n wide) ∧ Hid (RGood t) ∧ t.K + 2 * j ≤ 800000048 ∧ Hid (RIs wr e t g' c') ∧ Hid (RStep e g g' w wr)) (fun u _ => (intOf u).toNat)
  case atStart => exact ⟨wide, R, g, c, h2, rfl, rfl, R0, by omega, A, RStep.refl e g w⟩
  case round =>
    clear A R0
    obtain ⟨j, t, g', c', hj, rfl, HN, R0, hkk, A, S0⟩ := hrel
    by_cases hz : 0 < j
    · obtain ⟨k, i, hk0, hk12, hji, HSt⟩ : ∃ k i : Nat, 0 < k ∧ k ≤ 12 ∧ j = i + k ∧ (Hid (rbitsS t n j = rbitsS (rputS t (n / 2 ^ i % 2 ^ k) 1 (2 ^ k)) n i) ∧ k = min j 12) := by
        by_cases hc : 12 < j
        · exact ⟨12, j - 12, by omega, by omega, by omega, rbits_step t n j (j - 12) (by omega) (by omega) (by omega), by omega⟩
        · refine ⟨j, 0, hz, by omega, by omega, ?_, by omega⟩
          show _ = _
          rw [rbits_last t n j hz (by omega), rbits_nought, Int.pow_zero, Int.ediv_one]
      obtain ⟨HSt, hkm⟩ := HSt
      have hpk : (1 : Int) ≤ 2 ^ k ∧ (2 : Int) ^ k ≤ 4096 := by
        have h3 : (0 : Int) < 2 ^ k := Int.pow_pos (by omega)
        have h4 := Nat.pow_le_pow_right (show 0 < 2 by decide) (show k ≤ 12 by omega)
        have h5 : (2 : Int) ^ k ≤ 2 ^ 12 := by exact_mod_cast h4
        have e12 : (2 : Int) ^ 12 = 4096 := by decide
        omega
      have hpi : (1 : Int) ≤ 2 ^ i := by have : (0 : Int) < 2 ^ i := Int.pow_pos (by omega); omega
      have hx0 : 0 ≤ n / 2 ^ i := Int.ediv_nonneg h0 (by omega)
      have hx1 : n / 2 ^ i ≤ n := Int.ediv_le_self _ h0
      have hq0 := Int.emod_nonneg (n / 2 ^ i) (show (2 : Int) ^ k ≠ 0 by omega)
      have hq1 := Int.emod_lt_of_pos (n / 2 ^ i) (show (0 : Int) < 2 ^ k by omega)
      have PI : Hid (∀ q, Calls Try.prog 65 #[.int .i64 i] (wr.drewN q) fun e w' => e = .returned (.int .i64 (2 ^ i)) ∧ w' = wr.drewN q) := Lib.hid (fun q => power_calls i (by omega) _)
      have PK : Hid (∀ q, Calls Try.prog 65 #[.int .i64 k] (wr.drewN q) fun e w' => e = .returned (.int .i64 (2 ^ k)) ∧ w' = wr.drewN q) := Lib.hid (fun q => power_calls k (by omega) _)
      generalize (2 : Int) ^ i = pi at *
      generalize (2 : Int) ^ k = pk at *
      obtain ⟨x, hx⟩ : ∃ x, x = n / pi := ⟨_, rfl⟩
      rw [← hx] at hx0 hx1 hq0 hq1 HSt
      obtain ⟨y, hy⟩ : ∃ y, y = x % pk := ⟨_, rfl⟩
      rw [← hy] at hq0 hq1 HSt
      have MY : Hid (May y 1 pk) := Lib.hid ⟨hq0, by omega, by omega, by omega⟩
      have HP := Lib.hid (rput_good R0.out MY.out)
      have z1 : pi ≠ 0 := by omega
      have z2 : (pi == 0) = false := by rw [beq_eq_false_iff_ne]; omega
      have z3 : pk ≠ 0 := by omega
      have z4 : (pk == 0) = false := by rw [beq_eq_false_iff_ne]; omega
      have HJ : Hid (t.K + 2 * i + 2 ≤ 800000048) := Lib.hid (by omega)
      have HI : Hid (i < j ∧ i ≤ 24) := Lib.hid (by omega)
      have tk : t.K ≤ 900000000 := by omega
      have t1 : Int.tdiv n pi = x := (Int.tdiv_eq_ediv_of_nonneg h0).trans hx.symm
      have t2 : Int.tmod x pk = y := (Int.tmod_eq_emod_of_nonneg hx0).trans hy.symm
      have w1 : IntKind.i64.wrap x = x := wrapI64 (by omega) (by omega)
      have w2 : IntKind.i64.wrap y = y := wrapI64 (by omega) (by omega)
      by_cases hc : 12 < j
      · obtain rfl : k = 12 := by omega
        have hji2 : (j : Int) - 12 = (i : Int) := by omega
        have w3 : IntKind.i64.wrap (i : Int) = (i : Int) := wrapI64 (by omega) (by omega)
        clear hkm hji hx0 hx1 hq0 hq1 hpi hpk hx hy
        go_wp2
        refine region_quiet_tail 10 (by kernel_rfl) (by kernel_rfl) ?_
        simp only [List.take_succ_cons, List.take_zero, List.drop_succ_cons, List.drop_zero]
        repeat (quiet_step ((go_at_call 65; first | (with_reducible exact Calls.quiet_of_same (PI.out _)) | (with_reducible exact Calls.quiet_of_same (PK.out _)))))
        refine wpQuiet_nil ?_
        rintro _ ⟨nq, rfl⟩
        go_wp2_with (first
          | (go_at_call 30
             refine (RPut_yes (A.out.drewN nq) R0.out tk _ _ _ MY.out).mono ?_
             rintro e4 w4 ⟨g4, c4, rfl, a4, s4⟩
             have A4 := Lib.hid a4
             have S4 : Hid (RStep e g g4 w w4) := Lib.hid ((S0.out.below (pw_below_drewN (Below.refl _ _) nq)).trans s4)
             clear a4 s4))
        go_roundw
        case rel => exact ⟨i, rputS t y 1 pk, g4, c4, HI.out.2, rfl, HSt.out.symm.trans HN.out, HP.out.1, by have := HP.out.2.2; have := HJ.out; omega, A4, S4⟩
        case measure => simp [intOf]; exact HI.out.1
      · obtain rfl : k = j := by omega
        obtain rfl : i = 0 := by omega
        clear hkm hji hx0 hx1 hq0 hq1 hpi hpk hx hy
        go_wp2
        refine region_quiet_tail 10 (by kernel_rfl) (by kernel_rfl) ?_
        simp only [List.take_succ_cons, List.take_zero, List.drop_succ_cons, List.drop_zero]
        repeat (quiet_step ((go_at_call 65; first | (with_reducible exact Calls.quiet_of_same (PI.out _)) | (with_reducible exact Calls.quiet_of_same (PK.out _)))))
        refine wpQuiet_nil ?_
        rintro _ ⟨nq, rfl⟩
        go_wp2_with (first
          | (go_at_call 30
             refine (RPut_yes (A.out.drewN nq) R0.out tk _ _ _ MY.out).mono ?_
             rintro e4 w4 ⟨g4, c4, rfl, a4, s4⟩
             have A4 := Lib.hid a4
             have S4 : Hid (RStep e g g4 w w4) := Lib.hid ((S0.out.below (pw_below_drewN (Below.refl _ _) nq)).trans s4)
             clear a4 s4))
        go_roundw
        case rel => exact ⟨0, rputS t y 1 pk, g4, c4, HI.out.2, rfl, HSt.out.symm.trans HN.out, HP.out.1, by have := HP.out.2.2; have := HJ.out; omega, A4, S4⟩
        case measure => simp [intOf]; exact HI.out.1
    · obtain rfl : j = 0 := by omega
      rw [rbits_nought] at HN
      have HF := Lib.hid HN.out.symm
      clear HN
      go_wp2
      rw [HF.out]
      exact bodyPost_end (results_none rfl _ _ _) rfl ⟨g', c', rfl, A.out, S0.out⟩
end Go.Proofs.Ytlbjoflmfboeeaa.Enc
