/- Texts of this session, merged. -/
import Derived.Test.YtlbjoflmfboeeaaMep2
import Derived.Lib.SliceRun
/-
  The walk of the document's Bytes; no condition but those told.
-/
set_option linter.unusedVariables false
set_option linter.unusedSimpArgs false
namespace Go.Proofs.Ytlbjoflmfboeeaa.Enc
open Go.RowKit Go.Proofs.Ytlbjoflmfboeeaa Go.Proofs.YtlbjoflmfboeeaaW.PrintWords Go.Proofs.Ytlbjoflmfboeeaa.Dig

/-- A slice of bytes of the call's own. -/
def BPost (l : List Int) (w : World) (en : Ending) (w' : World) : Prop := ∃ v', en = .returned v' ∧ Sl w' 5 .u8 v' l ∧ (∀ g, v'.ownBlock = some g → w.heap.size ≤ g) ∧ Below w.heap.size w w'
set_option maxHeartbeats 4000000 in
set_option maxRecDepth 100000 in
theorem RBytes_calls {w : World} {e g c : Nat} {R : RSt} (a : RIs w e R g c) (dig : ∀ x ∈ R.D, 0 ≤ x ∧ x ≤ 255) (small : R.D.length ≤ 900000000) :
    Calls Try.prog 31 #[.pointer (some ⟨e, 0, none⟩)] w (BPost (strip R.D) w) := by
  have d0 := a.blk.cell (i := 0) rfl
  have A := Lib.hid a
  have HD := Lib.hid dig
  have hle := a.blk.lt
  have hlg := a.row.lt
  clear a dig
  obtain ⟨len, hl⟩ : ∃ len, R.D.length = len := ⟨_, rfl⟩
  have HL := Lib.hid hl
  rw [hl] at d0 small
  clear hl
  go_enter Try.func31, Try.ntmps31
  go_wp2
  go_loopw [4, 5] (fun vl vi wr => ∃ (k n : Nat) (z : Int), k ≤ len ∧ n ≤ k ∧ vi = .int .i64 (k : Int) ∧ vl = .int .i64 z ∧ z + 1 = (n : Int) ∧ Hid (strip (R.D.take k) = R.D.take n) ∧ wr = w) (fun _ vi _ => len - (intOf vi).toNat)
  case atStart => exact ⟨0, 0, -1, by omega, by omega, rfl, rfl, rfl, rfl, rfl⟩
  case round =>
    obtain ⟨k, n, z, hk, hn, rfl, rfl, hz, HS, rfl⟩ := hrel
    by_cases hlt : k < len
    · have ck := A.out.row.cell (i := k) (by rw [HL.out]; omega)
      have HT := Lib.hid (strip_take R.D k (by rw [HL.out]; omega))
      have ib : (k : Int) < (len : Int) := by omega
      generalize R.D[k]'(by rw [HL.out]; omega) = y at *
      by_cases hy : y = 0
      · have z1 : (y == 0) = true := by rw [beq_iff_eq]; exact hy
        have z2 : (y != 0) = false := by rw [hy]; rfl
        have HT2 : Hid (strip (R.D.take (k + 1)) = R.D.take n) := Lib.hid (by rw [HT.out, if_pos hy]; exact HS.out)
        clear hy
        go_wp2
        go_roundw
        case rel => exact ⟨k + 1, n, z, by omega, by omega, by push_cast; rfl, rfl, hz, HT2, trivial⟩
        case measure => simp [intOf]; omega
      · have z1 : (y == 0) = false := by rw [beq_eq_false_iff_ne]; exact hy
        have z2 : (y != 0) = true := by rw [bne_iff_ne]; exact hy
        have HT2 : Hid (strip (R.D.take (k + 1)) = R.D.take (k + 1)) := Lib.hid (by rw [HT.out, if_neg hy])
        clear hy
        go_wp2
        go_roundw
        case rel => exact ⟨k + 1, k + 1, k, by omega, by omega, by push_cast; rfl, rfl, by push_cast; rfl, HT2, trivial⟩
        case measure => simp [intOf]; omega
    · obtain rfl : k = len := by omega
      have HF : Hid (strip R.D = R.D.take n) := Lib.hid (by have := HS.out; rw [List.take_of_length_le (by rw [HL.out]; omega)] at this; exact this)
      clear HS
      go_wp2
      obtain ⟨w, rfl⟩ : ∃ w : World, w = wr := ⟨_, rfl⟩
      go_loopw [3, 6] (fun vo vi wq => ∃ (i : Nat) (v : Value), i ≤ n ∧ vi = .int .i64 (i : Int) ∧ vo = v ∧ Hid (Sl wq 5 .u8 v (R.D.take i)) ∧ Hid (∀ b, v.ownBlock = some b → w.heap.size ≤ b) ∧ Hid (Below w.heap.size w wq)) (fun _ vi _ => n - (intOf vi).toNat)
      case atStart => exact ⟨0, _, by omega, rfl, rfl, Sl.nil _ _ _, fun b hb => (by cases hb), Below.refl _ _⟩
      case round =>
        obtain ⟨i, v, hi, rfl, rfl, HS, HB, HW⟩ := hrel
        by_cases hlt2 : i < n
        · have hwq := HW.out.size
          have x0 : wr.cell? ⟨e, 0, none⟩ = some (.slice (some ⟨g, 0, none⟩) k c) := (HW.out.cell (p := ⟨e, 0, none⟩) hle).trans d0
          have ci := (A.out.row.below HW.out hlg).cell (i := i) (by rw [HL.out]; omega)
          have hy := HD.out _ (List.getElem_mem (show i < R.D.length by rw [HL.out]; omega))
          have HTk := Lib.hid (List.take_succ_eq_append_getElem (show i < R.D.length by rw [HL.out]; omega))
          have hli : (R.D.take i).length = i := by rw [List.length_take, HL.out]; omega
          have HLi := Lib.hid hli
          have ib : (i : Int) < (k : Int) := by omega
          generalize R.D[i]'(by rw [HL.out]; omega) = y at *
          clear hli
          go_wp2_with (first
            | (at_builtin; refine wpList_push (.tmp 30) (.tmp 39) 35 5 .u8 0 1 rfl rfl Try.underlying35 info_u8 _ (R.D.take i) i y ⟨wr.heap.size, 0, none⟩ (wr.heap.size + 1) rfl rfl (HS.out.alloc _) HLi.out ?_ ?_ ?_ ?_ ?_
               · exact (Blk.new wr _ _).cell (i := 0) rfl
               · simp
               · omega
               · omega
               intro g2 cap2 w2 hp
               have HP := Lib.hid hp
               clear hp))
          go_roundw
          case rel =>
            have hl2 : (R.D.take i ++ [y]).length = i + 1 := by rw [List.length_append, HLi.out]; rfl
            have hs := Sl.row HP.out.row
            rw [hl2, ← HTk.out] at hs
            refine ⟨i + 1, _, by omega, by push_cast; rfl, rfl, hs, fun b hb => ?_, ((HW.out.alloc hwq _).trans (HP.out.only.below (B := w.heap.size) (by simp; omega) (fun q hq => HB.out q hq)))⟩
            have e : g2 = b := Option.some.inj hb
            rcases HP.out.at_ with h | h
            · exact HB.out b (by rw [← e]; exact h)
            · omega
          case measure => simp [intOf]; omega
        · obtain rfl : i = n := by omega
          have d5 : decide ((i : Int) ≤ z) = false := decide_eq_false (by omega)
          go_wp2
          go_ret
          exact ⟨_, rfl, by rw [HF.out]; exact HS.out, HB.out, HW.out⟩
end Go.Proofs.Ytlbjoflmfboeeaa.Enc

/-
  The program's encoder and the document's hold one number: their bytes are the same. Plain theorems; no condition but those told.
-/
set_option linter.unusedVariables false
namespace Go.Proofs.Ytlbjoflmfboeeaa.Enc
open Go.RowKit Go.Proofs.Ytlbjoflmfboeeaa Go.Proofs.Ytlbjoflmfboeeaa.Dig

/-- The bytes that may still rise. -/
def pend (s : St) : List Int := (if s.be = true then [s.fi] else []) ++ List.replicate (s.he - 1) 255
def pre (s : St) : List Int := s.out ++ pend s
theorem pend_len (s : St) : (pend s).length = s.he - 1 + (if s.be = true then 1 else 0) := by
  unfold pend; split <;> simp
  try omega
theorem vl_rep255 (n : Nat) : vl (List.replicate n 255) = 256 ^ n - 1 := by
  induction n with
  | zero => simp [vl]
  | succ n ih => rw [List.replicate_succ', vl_snoc, ih, Int.pow_succ]; omega
theorem vl_rep0 (n : Nat) : vl (List.replicate n 0) = 0 := by
  induction n with
  | zero => rfl
  | succ n ih => rw [List.replicate_succ', vl_snoc, ih]; rfl
theorem pend_dig (s : St) (h0 : 0 ≤ s.fi) (h1 : s.fi ≤ 255) : ∀ x ∈ pend s, 0 ≤ x ∧ x ≤ 255 := by
  intro x hx
  unfold pend at hx
  rcases List.mem_append.1 hx with hx | hx
  · split at hx
    · simp at hx; omega
    · cases hx
  · have := List.eq_of_mem_replicate hx; omega
theorem pre_len (s : St) (h : 1 ≤ s.he) : (pre s).length = s.k := by
  unfold pre St.k
  rw [List.length_append, pend_len]
  omega
structure Sane (s : St) : Prop where
  lo0 : 0 ≤ s.lo
  lo1 : s.lo < 8589934592
  he0 : 1 ≤ s.he
  fi0 : 0 ≤ s.fi
  fi1 : s.fi ≤ 255
  dig : ∀ x ∈ s.out, 0 ≤ x ∧ x ≤ 255
  /-- What is in the way of what goes over, takes it. -/
  room : vl (pend s) + over s < 256 ^ (pend s).length
theorem flush_vl (s : St) (h : Sane s) : vl (flush s) = vl (pre s) + over s := by
  have ho : over s = 0 ∨ over s = 1 := by have := h.lo0; have := h.lo1; unfold over; omega
  have hr := h.room
  rcases ho with ho | ho
  · unfold flush pre pend
    rw [ho]
    have e1 : (s.fi + 0) % 256 = s.fi := by have := h.fi0; have := h.fi1; omega
    rw [e1, show ((255 : Int) + 0) % 256 = 255 from by decide]
    split <;> simp
  · by_cases hb : s.be = true
    · unfold flush pre
      unfold pend at hr ⊢
      rw [ho] at hr ⊢
      rw [if_pos hb] at hr ⊢
      rw [if_pos hb]
      rw [vl_append, vl_one, vl_rep255, List.length_replicate, List.length_append, List.length_replicate, List.length_singleton, Nat.add_comm 1, Int.pow_succ] at hr
      have hp := pow_pos256 (s.he - 1)
      have hfi : s.fi + 1 ≤ 255 := by
        generalize (256 : Int) ^ (s.he - 1) = p at *
        by_cases hf : s.fi + 1 ≤ 255
        · exact hf
        · have : 255 * p ≤ s.fi * p := Int.mul_le_mul_of_nonneg_right (by omega) (by omega)
          omega
      rw [show (s.fi + 1) % 256 = s.fi + 1 from by have := h.fi0; omega, show ((255 : Int) + 1) % 256 = 0 from by decide, List.append_assoc, vl_append, vl_append, vl_append, vl_append, vl_one, vl_one, vl_rep0, vl_rep255]
      simp only [List.length_append, List.length_singleton, List.length_replicate]
      rw [Int.add_mul]
      omega
    · unfold pend at hr
      rw [if_neg hb, List.nil_append, vl_rep255, List.length_replicate, ho] at hr
      omega
theorem flush_dig (s : St) (h : Sane s) : ∀ x ∈ flush s, 0 ≤ x ∧ x ≤ 255 := by
  intro x hx
  unfold flush at hx
  rcases List.mem_append.1 hx with hx | hx
  · split at hx
    · rcases List.mem_append.1 hx with hx | hx
      · exact h.dig x hx
      · simp at hx; omega
    · exact h.dig x hx
  · have := List.eq_of_mem_replicate hx; omega
/-- The number that an encoder holds. -/
def Val (s : St) : Int := vl (pre s) * 4294967296 + s.lo
theorem pre_loud (s : St) (hc : s.lo < 4278190080 ∨ 4294967296 ≤ s.lo) : pre (shiftS s) = flush s ++ [s.lo / 16777216 % 256] := by
  unfold shiftS; rw [if_pos hc]
  unfold pre pend
  simp
theorem pend_loud (s : St) (hc : s.lo < 4278190080 ∨ 4294967296 ≤ s.lo) : pend (shiftS s) = [s.lo / 16777216 % 256] := by
  unfold shiftS; rw [if_pos hc]
  unfold pend
  simp
theorem pend_calm (s : St) (h : 1 ≤ s.he) (hc : ¬ (s.lo < 4278190080 ∨ 4294967296 ≤ s.lo)) : pend (shiftS s) = pend s ++ [255] := by
  unfold shiftS; rw [if_neg hc]
  unfold pend
  simp only [Nat.add_sub_cancel]
  rw [List.append_assoc]
  congr 1
  have : s.he = s.he - 1 + 1 := by omega
  rw [← List.replicate_succ', ← this]
theorem pre_calm (s : St) (h : 1 ≤ s.he) (hc : ¬ (s.lo < 4278190080 ∨ 4294967296 ≤ s.lo)) : pre (shiftS s) = pre s ++ [255] := by
  unfold pre
  rw [pend_calm s h hc, ← List.append_assoc]
  congr 2
  unfold shiftS; rw [if_neg hc]
theorem shift_lo (s : St) : (shiftS s).lo = s.lo % 16777216 * 256 := by unfold shiftS; split <;> rfl
theorem shift_val (s : St) (h : Sane s) : Val (shiftS s) = Val s * 256 := by
  unfold Val
  rw [shift_lo]
  by_cases hc : s.lo < 4278190080 ∨ 4294967296 ≤ s.lo
  · rw [pre_loud s hc, vl_snoc, flush_vl s h]
    unfold over
    have := h.lo0; have := h.lo1
    omega
  · rw [pre_calm s h.he0 hc, vl_snoc]
    have := h.lo0; have := h.lo1
    omega
theorem shift_out_dig (s : St) (h : Sane s) : ∀ x ∈ (shiftS s).out, 0 ≤ x ∧ x ≤ 255 := by
  unfold shiftS
  split
  · exact flush_dig s h
  · exact h.dig
/-- Behind a shift nothing goes over. -/
theorem shift_sane (s : St) (h : Sane s) : Sane (shiftS s) := by
  have hl := shiftS_lo s
  have hh := shiftS_he s h.he0
  have hf := shiftS_fi s h.fi0 (by have := h.fi1; omega)
  refine ⟨hl.1, by omega, hh, hf.1, by omega, shift_out_dig s h, ?_⟩
  have e : over (shiftS s) = 0 := by unfold over; omega
  rw [e, Int.add_zero]
  exact vl_lt _ (pend_dig _ hf.1 (by omega))
theorem shifts_val (n : Nat) : ∀ (s : St), Sane s → Val (shifts n s) = Val s * 256 ^ n ∧ Sane (shifts n s) ∧ (shifts n s).k = s.k + n := by
  induction n with
  | zero => intro s h; exact ⟨by simp [shifts], h, rfl⟩
  | succ n ih =>
    intro s h
    obtain ⟨h1, h2, h3⟩ := ih (shiftS s) (shift_sane s h)
    refine ⟨?_, h2, ?_⟩
    · show Val (shifts n (shiftS s)) = _
      rw [h1, shift_val s h, Int.pow_succ, Int.mul_assoc, Int.mul_comm 256]
    · show (shifts n (shiftS s)).k = _
      rw [h3, shift_k s h.he0]; omega
theorem shifts_succ (n : Nat) : ∀ (s : St), shifts (n + 1) s = shiftS (shifts n s) := by
  induction n with
  | zero => intro s; rfl
  | succ n ih => intro s; show shifts (n + 1) (shiftS s) = _; rw [ih]; rfl
theorem lo4 (s : St) (h : 0 ≤ s.lo) : (shifts 4 s).lo = 0 := by
  show (shiftS (shiftS (shiftS (shiftS s)))).lo = 0
  rw [shift_lo, shift_lo, shift_lo, shift_lo]
  omega
/-- All bytes, behind five shifts. -/
theorem out_five (s : St) (h : Sane s) : vl (shifts 5 s).out = Val s ∧ (shifts 5 s).out.length = s.k + 4 ∧ ∀ x ∈ (shifts 5 s).out, 0 ≤ x ∧ x ≤ 255 := by
  obtain ⟨h1, h2, h3⟩ := shifts_val 4 s h
  have hl := lo4 s h.lo0
  rw [shifts_succ 4 s]
  have e : (shiftS (shifts 4 s)).out = flush (shifts 4 s) := by unfold shiftS; rw [if_pos (.inl (by rw [hl]; decide))]
  rw [e]
  refine ⟨?_, by rw [flush_len _ h2.he0, h3], flush_dig _ h2⟩
  rw [flush_vl _ h2]
  unfold Val at h1
  unfold over
  rw [hl] at h1 ⊢
  rw [show (256 : Int) ^ 4 = 4294967296 from by decide] at h1
  have e2 : Val s = vl (pre s) * 4294967296 + s.lo := rfl
  rw [e2]
  omega
/-- One number. -/
structure Rel (s : St) (R : RSt) : Prop where
  k : s.k = R.K
  sz : s.sz = R.S
  val : Val s = vl R.D
  lo0 : 0 ≤ s.lo
  sum : s.lo + s.sz < 8589934592
  he0 : 1 ≤ s.he
  fi0 : 0 ≤ s.fi
  fi1 : s.fi ≤ 255
  dig : ∀ x ∈ s.out, 0 ≤ x ∧ x ≤ 255
  top : vl (pend s) * 4294967296 + s.lo + s.sz ≤ 256 ^ (pend s).length * 4294967296
theorem Rel.sane {s : St} {R : RSt} (h : Rel s R) (hs : 0 < s.sz) : Sane s := by
  refine ⟨h.lo0, by have := h.sum; omega, h.he0, h.fi0, h.fi1, h.dig, ?_⟩
  have ht := h.top
  have hv := vl_lt _ (pend_dig s h.fi0 h.fi1)
  unfold over
  have := h.lo0
  have := h.sum
  omega
theorem fresh_rel : Rel fresh rfresh := ⟨rfl, rfl, by decide, by decide, by decide, by decide, by decide, by decide, (fun x hx => by cases hx), by decide⟩
theorem step_rel {s : St} {R : RSt} (h : Rel s R) (hs : 0 < s.sz) (hc : s.sz < 16777216) : Rel (step1 s) (rstep R) := by
  have hsane := h.sane hs
  obtain ⟨s', hs'⟩ : ∃ s' : St, s' = ⟨s.lo, s.sz * 256, s.he, s.fi, s.out, s.be⟩ := ⟨_, rfl⟩
  have e1 : step1 s = shiftS s' := by rw [hs']; rfl
  have p1 : pend s' = pend s := by rw [hs']; rfl
  have p2 : pre s' = pre s := by rw [hs']; rfl
  have p3 : s'.lo = s.lo := by rw [hs']
  have p4 : over s' = over s := by rw [hs']; rfl
  have p5 : s'.sz = s.sz * 256 := by rw [hs']
  have p6 : s'.k = s.k := by rw [hs']; rfl
  have hsane' : Sane s' := by
    refine ⟨by rw [p3]; exact hsane.lo0, by rw [p3]; exact hsane.lo1, by rw [hs']; exact hsane.he0, by rw [hs']; exact hsane.fi0, by rw [hs']; exact hsane.fi1, by rw [hs']; exact hsane.dig, ?_⟩
    rw [p1, p4]; exact hsane.room
  have hv : Val s' = Val s := by unfold Val; rw [p2, p3]
  have sh := shift_sane s' hsane'
  have hl := shiftS_lo s'
  have hz := shiftS_sz s'
  rw [e1]
  refine ⟨?_, ?_, ?_, sh.lo0, by rw [hz, p5]; omega, sh.he0, sh.fi0, sh.fi1, sh.dig, ?_⟩
  · rw [shift_k s' hsane'.he0, p6, h.k]; rfl
  · rw [hz, p5, h.sz]; rfl
  · rw [shift_val s' hsane', hv, h.val]
    show _ = vl (R.D ++ [0])
    rw [vl_snoc]; omega
  · have ht := h.top
    have hlo := h.lo0
    have hsum := h.sum
    rw [hz, p5, shift_lo, p3]
    by_cases hcc : s'.lo < 4278190080 ∨ 4294967296 ≤ s'.lo
    · rw [pend_loud s' hcc, vl_one, p3]
      rw [p3] at hcc
      simp only [List.length_singleton]
      rw [show (256 : Int) ^ 1 = 256 from rfl]
      omega
    · rw [pend_calm s' hsane'.he0 hcc, vl_snoc, List.length_append, List.length_singleton, Int.pow_succ, p1]
      rw [p3] at hcc
      generalize (256 : Int) ^ (pend s).length = p at *
      omega
theorem norm_rel (n : Nat) : ∀ (s : St) (R : RSt), Rel s R → 0 < s.sz → Rel (norm n s) (rnorm n R) := by
  induction n with
  | zero => intro s R h hs; exact h
  | succ n ih =>
    intro s R h hs
    unfold norm rnorm
    rw [← h.sz]
    by_cases hc : s.sz < 16777216
    · rw [if_pos hc, if_pos hc]
      exact ih _ _ (step_rel h hs hc) (by show 0 < (shiftS _).sz; rw [shiftS_sz]; show 0 < s.sz * 256; omega)
    · rw [if_neg hc, if_neg hc]; exact h
theorem put_rel {s : St} {R : RSt} (h : Rel s R) (g : RGood R) {lo ow al : Int} (may : May lo ow al) : Rel (putS s lo ow al) (rputS R lo ow al) := by
  obtain ⟨p0, p1, p2, p3⟩ := may
  obtain ⟨each, hE⟩ : ∃ each, each = R.S / al := ⟨_, rfl⟩
  have s0 := g.s0
  have s1 := g.s1
  have b3 := each_lo al R.S (by omega) p3 s0
  have b1 := mul_bd each lo al R.S hE (by omega) p0 (by omega) (by omega)
  have b2 := mul_bd each ow al R.S hE (by omega) (by omega) (by omega) (by omega)
  have b6 := mul_bd each (lo + ow) al R.S hE (by omega) (by omega) (by omega) (by omega)
  rw [Int.mul_add] at b6
  have b4 : each * 1 ≤ each * ow := Int.mul_le_mul_of_nonneg_left p1 (by omega)
  rw [Int.mul_one] at b4
  have hv : vl (addF 4 R.D R.K (each * lo)) = vl R.D + each * lo := by
    have := addF_vl 4 (by omega) R.D R.K (each * lo) g.len b1.1 (by show each * lo < 4294967296; omega)
    simpa using this
  have hcv := carF_vl (R.K + 3) (addF 4 R.D R.K (each * lo)) R.K (by rw [addF_len, g.len]; omega)
  unfold putS rputS
  rw [h.sz]
  rw [← hE] at b3 ⊢
  have hsz := h.sz
  refine norm_rel 2 _ _ ⟨h.k, rfl, ?_, by have := h.lo0; simp only; omega, by have := h.sum; simp only; omega, h.he0, h.fi0, h.fi1, h.dig, ?_⟩ (by simp only; omega)
  · simp only
    rw [hcv, hv, ← h.val]
    show vl (pre s) * 4294967296 + (s.lo + each * lo) = vl (pre s) * 4294967296 + s.lo + each * lo
    omega
  · have ht := h.top
    show vl (pend s) * 4294967296 + (s.lo + each * lo) + each * ow ≤ 256 ^ (pend s).length * 4294967296
    omega
/-- The same bytes. -/
theorem bytes_rel {s : St} {R : RSt} (h : Rel s R) (g : RGood R) : bytesS s = strip R.D := by
  have hs : 0 < s.sz := by rw [h.sz]; have := g.s0; omega
  obtain ⟨h1, h2, h3⟩ := out_five s (h.sane hs)
  unfold bytesS
  rw [vl_inj _ R.D (by rw [h2, g.len, h.k]) h3 g.dig (by rw [h1, h.val])]
theorem Rel.ready {s : St} {R : RSt} (h : Rel s R) (g : RGood R) : s.Ready :=
  ⟨h.lo0, h.sum, by rw [h.sz]; exact g.s0, by rw [h.sz]; exact g.s1, h.he0, h.fi0, by have := h.fi1; omega⟩
end Go.Proofs.Ytlbjoflmfboeeaa.Enc

/-
  Symbols and bits keep what was told of the two encoders. Plain theorems; no condition but those told.
-/
set_option linter.unusedVariables false
namespace Go.Proofs.Ytlbjoflmfboeeaa.Enc
open Go.RowKit Go.Proofs.Ytlbjoflmfboeeaa Go.Proofs.Ytlbjoflmfboeeaa.Dig

theorem fresh_rdy : fresh.Ready := fresh_rel.ready rfresh_good
theorem may_bits (n : Int) {j : Nat} (h : j ≤ 12) : May (n % 2 ^ j) 1 (2 ^ j) := by
  have h3 : (0 : Int) < 2 ^ j := Int.pow_pos (by omega)
  have h4 := Nat.pow_le_pow_right (show 0 < 2 by decide) h
  have h5 : (2 : Int) ^ j ≤ 2 ^ 12 := by exact_mod_cast h4
  have e12 : (2 : Int) ^ 12 = 4096 := by decide
  have := Int.emod_nonneg n (show (2 : Int) ^ j ≠ 0 by omega)
  have := Int.emod_lt_of_pos n h3
  exact ⟨by omega, by omega, by omega, by omega⟩
theorem may_bits12 (n : Int) : May (n % 4096) 1 4096 := by refine ⟨?_, ?_, ?_, ?_⟩ <;> omega
theorem bitsS_ready {s : St} (ok : s.Ready) (n : Int) (w : Nat) (hw : w ≤ 24) : (bitsS s n w).Ready ∧ s.k ≤ (bitsS s n w).k ∧ (bitsS s n w).k ≤ s.k + 4 := by
  unfold bitsS
  split
  · exact ⟨ok, Nat.le_refl _, Nat.le_add_right _ _⟩
  · split
    · rename_i h0 h1
      obtain ⟨r1, r2, r3⟩ := put_ready ok (may_bits n h1)
      exact ⟨r1, r2, Nat.le_trans r3 (by omega)⟩
    · rename_i h0 h1
      obtain ⟨r1, r2, r3⟩ := put_ready ok (may_bits12 (n / 2 ^ (w - 12)))
      obtain ⟨q1, q2, q3⟩ := put_ready r1 (may_bits n (show w - 12 ≤ 12 by omega))
      exact ⟨q1, Nat.le_trans r2 q2, Nat.le_trans q3 (by omega)⟩
theorem rbitsS_good {R : RSt} (ok : RGood R) (n : Int) (w : Nat) (hw : w ≤ 24) : RGood (rbitsS R n w) ∧ R.K ≤ (rbitsS R n w).K ∧ (rbitsS R n w).K ≤ R.K + 4 := by
  unfold rbitsS
  split
  · exact ⟨ok, Nat.le_refl _, Nat.le_add_right _ _⟩
  · split
    · rename_i h0 h1
      obtain ⟨r1, r2, r3⟩ := rput_good ok (may_bits n h1)
      exact ⟨r1, r2, Nat.le_trans r3 (by omega)⟩
    · rename_i h0 h1
      obtain ⟨r1, r2, r3⟩ := rput_good ok (may_bits12 (n / 2 ^ (w - 12)))
      obtain ⟨q1, q2, q3⟩ := rput_good r1 (may_bits n (show w - 12 ≤ 12 by omega))
      exact ⟨q1, Nat.le_trans r2 q2, Nat.le_trans q3 (by omega)⟩
theorem bitsS_rel {s : St} {R : RSt} (h : Rel s R) (g : RGood R) (n : Int) (w : Nat) (hw : w ≤ 24) : Rel (bitsS s n w) (rbitsS R n w) := by
  unfold bitsS rbitsS
  split
  · exact h
  · split
    · rename_i h0 h1
      exact put_rel h g (may_bits n h1)
    · rename_i h0 h1
      exact put_rel (put_rel h g (may_bits12 (n / 2 ^ (w - 12)))) (rput_good g (may_bits12 (n / 2 ^ (w - 12)))).1 (may_bits n (show w - 12 ≤ 12 by omega))
theorem symS_ready {s : St} (ok : s.Ready) {L : List Int} (good : Mdl.Good L) {k : Nat} (hk : k < L.length) : (symS s L k).Ready ∧ s.k ≤ (symS s L k).k ∧ (symS s L k).k ≤ s.k + 2 := put_ready ok (may_of good k hk)
theorem rsymS_good {R : RSt} (ok : RGood R) {L : List Int} (good : Mdl.Good L) {k : Nat} (hk : k < L.length) : RGood (rsymS R L k) ∧ R.K ≤ (rsymS R L k).K ∧ (rsymS R L k).K ≤ R.K + 2 := rput_good ok (may_of good k hk)
theorem symS_rel {s : St} {R : RSt} (h : Rel s R) (g : RGood R) {L : List Int} (good : Mdl.Good L) {k : Nat} (hk : k < L.length) : Rel (symS s L k) (rsymS R L k) := put_rel h g (may_of good k hk)
theorem strip_sub (l : List Int) : (∀ x ∈ strip l, x ∈ l) ∧ (strip l).length ≤ l.length := by
  unfold strip
  have h : l.reverse.dropWhile (fun x => x == 0) <:+ l.reverse := List.dropWhile_suffix _
  refine ⟨fun x hx => ?_, ?_⟩
  · rw [List.mem_reverse] at hx
    have := h.subset hx
    rwa [List.mem_reverse] at this
  · rw [List.length_reverse]
    have := h.length_le
    rwa [List.length_reverse] at this
theorem strip_pre (l : List Int) : ∃ n, l = strip l ++ List.replicate n 0 := by
  unfold strip
  refine ⟨(l.reverse.takeWhile (fun x => x == 0)).length, ?_⟩
  have h := List.takeWhile_append_dropWhile (p := fun x : Int => x == 0) (l := l.reverse)
  have h2 := congrArg List.reverse h
  rw [List.reverse_append, List.reverse_reverse] at h2
  have h3 : (l.reverse.takeWhile (fun x => x == 0)).reverse = List.replicate (l.reverse.takeWhile (fun x => x == 0)).length 0 := by
    rw [List.eq_replicate_iff]
    refine ⟨by simp, fun x hx => ?_⟩
    rw [List.mem_reverse] at hx
    have key : ∀ (l : List Int), x ∈ l.takeWhile (fun x => x == 0) → x = 0 := by
      intro l
      induction l with
      | nil => intro h; cases h
      | cons a l ih =>
        intro h
        rw [List.takeWhile_cons] at h
        by_cases ha : a = 0
        · subst ha
          rcases List.mem_cons.1 (by simpa using h) with h | h
          · exact h
          · exact ih h
        · simp [ha] at h
    exact key _ hx
  rw [h3] at h2
  exact h2.symm
/-- The bytes are bytes, and not many. -/
theorem bytes_byt {s : St} {R : RSt} (h : Rel s R) (g : RGood R) : (∀ x ∈ bytesS s, 0 ≤ x ∧ x ≤ 255) ∧ (bytesS s).length ≤ s.k + 4 := by
  rw [bytes_rel h g]
  have h2 := strip_sub R.D
  refine ⟨fun x hx => g.dig x (h2.1 x hx), ?_⟩
  have := h2.2
  rw [g.len] at this
  rw [h.k]; exact this
end Go.Proofs.Ytlbjoflmfboeeaa.Enc

/-
  The two decoders as one state, and the walks of the program's next, at, take, New; no condition but those told.
-/
set_option linter.unusedVariables false
set_option linter.unusedSimpArgs false
namespace Go.Proofs.Ytlbjoflmfboeeaa.Deco
open Go.RowKit Go.Proofs.Ytlbjoflmfboeeaa Go.Proofs.YtlbjoflmfboeeaaW.PrintWords

structure DSt where
  bs : List Int
  n : Nat
  co : Int
  sz : Int
/-- The byte that is taken next. -/
def bt (s : DSt) : Int := s.bs.getD s.n 0
def nextS (s : DSt) : DSt := ⟨s.bs, s.n + 1, s.co * 256 + bt s, s.sz⟩
def dnorm : Nat → DSt → DSt
  | 0, s => s
  | k + 1, s => if s.sz < 16777216 then dnorm k (nextS ⟨s.bs, s.n, s.co, s.sz * 256⟩) else s
def takeS (s : DSt) (lo ow al : Int) : DSt := dnorm 2 ⟨s.bs, s.n, min (s.co - s.sz / al * lo) (s.sz / al * ow - 1), s.sz / al * ow⟩
def atS (s : DSt) (al : Int) : Int := min (s.co / (s.sz / al)) (al - 1)
def openS (bs : List Int) : DSt := nextS (nextS (nextS (nextS ⟨bs, 0, 0, 4294967295⟩)))
def Byt (bs : List Int) : Prop := (∀ x ∈ bs, 0 ≤ x ∧ x ≤ 255) ∧ bs.length ≤ 1000000000
theorem bt_bd {s : DSt} (h : Byt s.bs) : 0 ≤ bt s ∧ bt s ≤ 255 := by
  unfold bt
  rw [List.getD_eq_getElem?_getD]
  by_cases hn : s.n < s.bs.length
  · rw [List.getElem?_eq_getElem hn]; exact h.1 _ (List.getElem_mem hn)
  · rw [List.getElem?_eq_none (by omega)]; decide
structure DSt.Ready (s : DSt) : Prop where
  by_ : Byt s.bs
  c0 : 0 ≤ s.co
  c1 : s.co ≤ s.sz
  s0 : 16777216 ≤ s.sz
  s1 : s.sz < 4294967296
/-- A decoder in memory: its struct's type and the kind of its numbers. -/
structure Is (w : World) (d : Nat) (t : TypeId) (k : IntKind) (s : DSt) (v : Value) : Prop where
  blk : Blk w d t #[v, .int .i64 s.n, .int k s.co, .int k s.sz]
  sl : Sl w 5 .u8 v s.bs
  ne : v.ownBlock ≠ some d
section
variable {w w' : World} {d : Nat} {t : TypeId} {k : IntKind} {s : DSt} {v : Value}
theorem Is.only {S : Nat → Prop} (a : Is w d t k s v) (o : Only S w w') (h1 : ¬ S d) (h2 : ∀ g, v.ownBlock = some g → ¬ S g) : Is w' d t k s v :=
  ⟨a.blk.of_same (o.block d a.blk.lt h1), a.sl.only o h2, a.ne⟩
theorem Is.below (a : Is w d t k s v) (b : Below w.heap.size w w') : Is w' d t k s v := a.only (Only.of_below b : Only (fun _ => False) _ _) (fun h => h) (fun _ _ h => h)
theorem Is.drew (a : Is w d t k s v) : Is w.drew d t k s v := ⟨a.blk.drew, a.sl.drew, a.ne⟩
theorem Is.drewN (a : Is w d t k s v) (n : Nat) : Is (w.drewN n) d t k s v := ⟨a.blk.drewN n, a.sl.drewN n, a.ne⟩
theorem Is.inc (a : Is w d t k s v) : Is (w.setCell ⟨d, 1, none⟩ (.int .i64 ((s.n : Int) + 1))) d t k ⟨s.bs, s.n + 1, s.co, s.sz⟩ v :=
  ⟨by have := a.blk.set 1 (.int .i64 ((s.n : Int) + 1)); simpa using this, a.sl.other (a := ⟨d, 1, none⟩) a.ne _, a.ne⟩
theorem Is.co_ (a : Is w d t k s v) (c : Int) : Is (w.setCell ⟨d, 2, none⟩ (.int k c)) d t k ⟨s.bs, s.n, c, s.sz⟩ v :=
  ⟨a.blk.set 2 (.int k c), a.sl.other (a := ⟨d, 2, none⟩) a.ne _, a.ne⟩
theorem Is.sz_ (a : Is w d t k s v) (z : Int) : Is (w.setCell ⟨d, 3, none⟩ (.int k z)) d t k ⟨s.bs, s.n, s.co, z⟩ v :=
  ⟨a.blk.set 3 (.int k z), a.sl.other (a := ⟨d, 3, none⟩) a.ne _, a.ne⟩
end
/-- Only this block turned. -/
abbrev At (d : Nat) : World → World → Prop := Only (fun i => i = d)
theorem At.refl (d : Nat) (w : World) : At d w w := Only.refl _ w
theorem At.cell {d : Nat} {w w' : World} (h : At d w w') (i : Nat) (u : Value) : At d w (w'.setCell ⟨d, i, none⟩ u) := Only.set h (p := ⟨d, i, none⟩) (.inl rfl) u
attribute [local irreducible] bt
set_option maxHeartbeats 2000000 in
set_option maxRecDepth 100000 in
theorem next_calls {w : World} {d : Nat} {s : DSt} {v : Value} (a : Is w d 120 .u32 s v) (hb : Byt s.bs) (c0 : 0 ≤ s.co) (c1 : s.co < 16777216) (hn : s.n ≤ 1000000000000) :
    Calls Try.prog 67 #[.pointer (some ⟨d, 0, none⟩)] w fun e w' => e = .returned (.tuple #[]) ∧ Is w' d 120 .u32 (nextS s) v ∧ At d w w' := by
  have hbt := bt_bd hb
  have HBt : Hid (bt s = s.bs.getD s.n 0) := Lib.hid (by unfold bt; rfl)
  have A := Lib.hid a
  obtain ⟨bs, n, co, sz⟩ := s
  simp only at *
  have d2 := a.blk.cell (i := 2) rfl
  have f2 := a.blk.free 2
  have hl := hb.2
  have HNx : Hid (nextS ⟨bs, n, co, sz⟩ = ⟨bs, n + 1, co * 256 + bt ⟨bs, n, co, sz⟩, sz⟩) := Lib.hid rfl
  generalize bt ⟨bs, n, co, sz⟩ = x at *
  clear a hb
  have e1 : IntKind.u32.wrap (co * 256) = co * 256 := Enc.wraps_u32 _ (by omega) (by omega)
  go_enter Try.func67, Try.ntmps67
  go_wp2
  have A2 := Lib.hid (A.out.co_ (co * 256))
  have O2 := Lib.hid ((At.refl d w).cell 2 (.int .u32 (co * 256)))
  clear d2 f2 A
  generalize w.setCell ⟨d, 2, none⟩ (.int .u32 (co * 256)) = w2 at *
  have d0 := A2.out.blk.cell (i := 0) rfl
  have d1 := A2.out.blk.cell (i := 1) rfl
  have d2 := A2.out.blk.cell (i := 2) rfl
  have f1 := A2.out.blk.free 1
  have f2 := A2.out.blk.free 2
  by_cases hc : n < bs.length
  · obtain ⟨g, cap, rfl, hr⟩ : ∃ g cap, v = .slice (some ⟨g, 0, none⟩) bs.length cap ∧ RowI w2 5 .u8 g cap bs := by
      rcases A2.out.sl with ⟨_, h⟩ | h
      · simp only at h; subst h; simp at hc
      · exact h
    have d3 := hr.cell hc
    have hx : bs[n] = x := by rw [HBt.out, List.getD_eq_getElem?_getD, List.getElem?_eq_getElem hc]; rfl
    rw [hx] at d3
    have e2 : bits .or .u32 (co * 256) x = co * 256 + x := bits_join .u32 32 (by decide) Enc.wraps_u32 8 _ _ (by omega) (by omega) (by omega) (by omega) (by omega) (by omega)
    have e3 : IntKind.u32.wrap x = x := Enc.wraps_u32 _ (by omega) (by omega)
    have HC := Lib.hid hc
    have i1 : (n : Int) < bs.length := by omega
    clear hr hx HBt
    go_quiet (fail)
    have A3 := Lib.hid (A2.out.drewN nq)
    have O3 := Lib.hid (O2.out.drewN nq)
    clear d0 d1 d2 f1 f2 A2 O2
    have d3 : (w2.drewN nq).cell? ⟨g, n, none⟩ = some (.int .u8 x) := d3
    generalize w2.drewN nq = w3 at *
    have d0 := A3.out.blk.cell (i := 0) rfl
    have d1 := A3.out.blk.cell (i := 1) rfl
    have d2 := A3.out.blk.cell (i := 2) rfl
    have f1 := A3.out.blk.free 1
    have f2 := A3.out.blk.free 2
    go_wp2
    go_still_tail 18, (by kernel_rfl)
    go_wp2
    rw [HNx.out]
    exact bodyPost_end (results_none rfl _ _ _) rfl ⟨rfl, (A3.out.co_ _).inc.drew, ((At.cell O3.out 2 _).cell 1 _).drew⟩
  · have hx : x = 0 := by rw [HBt.out, List.getD_eq_getElem?_getD, List.getElem?_eq_none (by omega)]; rfl
    have HC := Lib.hid hc
    subst hx
    rw [Int.add_zero] at HNx
    obtain ⟨ad, cap, rfl, _⟩ := A2.out.sl.form
    have i1 : ¬ (n : Int) < bs.length := by omega
    clear HBt
    go_quiet (fail)
    have A3 := Lib.hid (A2.out.drewN nq)
    have O3 := Lib.hid (O2.out.drewN nq)
    clear d0 d1 d2 f1 f2 A2 O2
    generalize w2.drewN nq = w3 at *
    have d1 := A3.out.blk.cell (i := 1) rfl
    have f1 := A3.out.blk.free 1
    go_wp2
    rw [HNx.out]
    exact bodyPost_end (results_none rfl _ _ _) rfl ⟨rfl, A3.out.inc, At.cell O3.out 1 _⟩
theorem at_calls {w : World} {d : Nat} {s : DSt} {v : Value} (a : Is w d 120 .u32 s v) (ok : s.Ready) (al : Int) (a0 : 1 ≤ al) (a1 : al ≤ 8192) :
    Calls Try.prog 70 #[.pointer (some ⟨d, 0, none⟩), .int .u32 al] w fun e w' => e = .returned (.int .u32 (atS s al)) ∧ ∃ n, w' = w.drewN n := by
  have d2 := a.blk.cell (i := 2) rfl
  have d3 := a.blk.cell (i := 3) rfl
  obtain ⟨each, hE⟩ : ∃ each, each = s.sz / al := ⟨_, rfl⟩
  have b3 := Enc.each_lo al s.sz a0 a1 ok.s0
  rw [← hE] at b3
  have HA : Hid (atS s al = min (s.co / each) (al - 1)) := Lib.hid (by unfold atS; rw [hE])
  have e1 : Int.tdiv s.sz al = each := by rw [hE, Int.tdiv_eq_ediv_of_nonneg (by have := ok.s0; omega)]
  have b5 : each ≤ s.sz := by rw [hE]; exact Int.ediv_le_self _ (by have := ok.s0; omega)
  obtain ⟨hb, c0, c1, s0, s1⟩ := ok
  obtain ⟨q, hq⟩ : ∃ q, q = s.co / each := ⟨_, rfl⟩
  have e2 : Int.tdiv s.co each = q := by rw [hq, Int.tdiv_eq_ediv_of_nonneg c0]
  have q0 : 0 ≤ q := by rw [hq]; exact Int.ediv_nonneg c0 (by omega)
  have q1 : q ≤ s.co := by rw [hq]; exact Int.ediv_le_self _ c0
  have e1' : s.sz / al = each := hE.symm
  have e2' : s.co / each = q := hq.symm
  rw [← hq] at HA
  have z1 : al ≠ 0 := by omega
  have z2 : (al == 0) = false := by rw [beq_eq_false_iff_ne]; omega
  have z3 : each ≠ 0 := by omega
  have z4 : (each == 0) = false := by rw [beq_eq_false_iff_ne]; omega
  have w1 : IntKind.u32.wrap each = each := Enc.wraps_u32 _ (by omega) (by omega)
  have w2 : IntKind.u32.wrap q = q := Enc.wraps_u32 _ (by omega) (by omega)
  have w3 : IntKind.u32.wrap (al - 1) = al - 1 := Enc.wraps_u32 _ (by omega) (by omega)
  clear hE hq a hb
  obtain ⟨bs, n, co, sz⟩ := s
  simp only at *
  go_enter Try.func70, Try.ntmps70
  go_wp2
  go_quiet (fail)
  by_cases h : al - 1 < q
  · have hm : min q (al - 1) = al - 1 := by omega
    rw [hm] at HA
    go_wp2
    go_ret
    rw [HA.out]
    exact ⟨rfl, nq, rfl⟩
  · have hm : min q (al - 1) = q := by omega
    rw [hm] at HA
    go_wp2
    go_ret
    rw [HA.out]
    exact ⟨rfl, nq, rfl⟩
set_option maxHeartbeats 4000000 in
set_option maxRecDepth 100000 in
theorem take_calls {w : World} {d : Nat} {s : DSt} {v : Value} (a : Is w d 120 .u32 s v) (ok : s.Ready) (lo ow al : Int) (may : Enc.May lo ow al) (le : s.sz / al * lo ≤ s.co) (hn : s.n ≤ 900000000000) :
    Calls Try.prog 71 #[.pointer (some ⟨d, 0, none⟩), Mdl.part lo ow al] w fun e w' => e = .returned (.tuple #[]) ∧ Is w' d 120 .u32 (takeS s lo ow al) v ∧ At d w w' := by
  obtain ⟨p0, p1, p2, p3⟩ := may
  have hd := a.blk.lt
  obtain ⟨each, hE⟩ : ∃ each, each = s.sz / al := ⟨_, rfl⟩
  obtain ⟨q, hq⟩ : ∃ q, q = each * lo := ⟨_, rfl⟩
  obtain ⟨r, hr⟩ : ∃ r, r = each * ow := ⟨_, rfl⟩
  have b1 := Enc.mul_bd each lo al s.sz hE (by omega) p0 (by omega) (by have := ok.s0; omega)
  have b2 := Enc.mul_bd each ow al s.sz hE (by omega) (by omega) (by omega) (by have := ok.s0; omega)
  have b3 := Enc.each_lo al s.sz (by omega) p3 ok.s0
  have b4 : each * 1 ≤ each * ow := Int.mul_le_mul_of_nonneg_left p1 (by omega)
  have b5 : each ≤ s.sz := by rw [hE]; exact Int.ediv_le_self _ (by have := ok.s0; omega)
  have HT : Hid (takeS s lo ow al = dnorm 2 ⟨s.bs, s.n, min (s.co - q) (r - 1), r⟩) := Lib.hid (by unfold takeS; rw [hq, hr, hE])
  have e1 : Int.tdiv s.sz al = each := by rw [hE, Int.tdiv_eq_ediv_of_nonneg (by have := ok.s0; omega)]
  have e1' : s.sz / al = each := hE.symm
  rw [← hE, ← hq] at le
  rw [← hE] at b3
  rw [← hq] at b1
  rw [← hr] at b2 b4
  rw [Int.mul_one] at b4
  have e2 : each * lo = q := hq.symm
  have e3 : each * ow = r := hr.symm
  have BY := Lib.hid ok.by_
  have A := Lib.hid a
  have d3 := a.blk.cell (i := 3) rfl
  obtain ⟨_, c0, c1, s0, s1⟩ := ok
  obtain ⟨bs, n, co, sz⟩ := s
  simp only at *
  have z1 : al ≠ 0 := by omega
  have z2 : (al == 0) = false := by rw [beq_eq_false_iff_ne]; omega
  have w1 : IntKind.u32.wrap each = each := Enc.wraps_u32 _ (by omega) (by omega)
  have w2 : IntKind.u32.wrap q = q := Enc.wraps_u32 _ (by omega) (by omega)
  have w3 : IntKind.u32.wrap r = r := Enc.wraps_u32 _ (by omega) (by omega)
  have w4 : IntKind.u32.wrap (co - q) = co - q := Enc.wraps_u32 _ (by omega) (by omega)
  have w5 : IntKind.u32.wrap (r - 1) = r - 1 := Enc.wraps_u32 _ (by omega) (by omega)
  clear hE hq hr a
  unfold Mdl.part
  go_enter Try.func71, Try.ntmps71
  go_wp2
  go_quiet (fail)
  have hB : Below w.heap.size w ((w.alloc (.cells #[.int .u32 lo, .int .u32 ow, .int .u32 al] 31)).drewN nq) := pw_below_drewN ((Below.refl _ _).alloc (Nat.le_refl _) _) nq
  have A2 := Lib.hid (A.out.below hB)
  have P2 : Hid (Blk ((w.alloc (.cells #[.int .u32 lo, .int .u32 ow, .int .u32 al] 31)).drewN nq) w.heap.size 31 #[.int .u32 lo, .int .u32 ow, .int .u32 al]) := (Blk.new w _ _).drewN nq
  have O2 : Hid (At d w ((w.alloc (.cells #[.int .u32 lo, .int .u32 ow, .int .u32 al] 31)).drewN nq)) := Lib.hid (Only.of_below hB)
  clear d3 A hB
  generalize ((w.alloc (.cells #[.int .u32 lo, .int .u32 ow, .int .u32 al] 31)).drewN nq) = w2 at *
  have d2 := A2.out.blk.cell (i := 2) rfl
  have d3 := A2.out.blk.cell (i := 3) rfl
  have f2 := A2.out.blk.free 2
  have f3 := A2.out.blk.free 3
  have c0' := P2.out.cell (i := 0) rfl
  have c1' := P2.out.cell (i := 1) rfl
  have c2' := P2.out.cell (i := 2) rfl
  go_wp2
  go_still_tail 11, (by kernel_rfl)
  go_wp2_with fail
  have A3 := Lib.hid ((A2.out.co_ (co - q)).sz_ r).drew
  have O3 := Lib.hid ((At.cell O2.out 2 (.int .u32 (co - q))).cell 3 (.int .u32 r)).drew
  clear d2 d3 f2 f3 c0' c1' c2' A2 O2 P2
  generalize ((w2.setCell ⟨d, 2, none⟩ (.int .u32 (co - q))).setCell ⟨d, 3, none⟩ (.int .u32 r)).drew = w3 at *
  have d2 := A3.out.blk.cell (i := 2) rfl
  have d3 := A3.out.blk.cell (i := 3) rfl
  have f2 := A3.out.blk.free 2
  simp only at d2 d3
  obtain ⟨x, hx⟩ : ∃ x, x = min (co - q) (r - 1) := ⟨_, rfl⟩
  have m1 : (if r - 1 < co - q then r - 1 else co - q) = x := by omega
  have m2 : mn (co - q) (r - 1) = x := by unfold mn; omega
  have x0 : 0 ≤ x := by omega
  have x1 : x ≤ r - 1 := by omega
  rw [← hx] at HT
  clear hx
  go_still_tail 13, (by kernel_rfl)
  go_wp2_with fail
  have A4 := Lib.hid (A3.out.co_ x).drew
  have O4 := Lib.hid (At.cell O3.out 2 (.int .u32 x)).drew
  clear d2 d3 f2 A3 O3 m1 m2 w1 w4 w5 e1 e1' e2 e3
  generalize (w3.setCell ⟨d, 2, none⟩ (.int .u32 x)).drew = w4 at *
  go_loopg [] 2 (fun j wr => ∃ t : DSt, j ≤ 2 ∧ Enc.lw j ≤ t.sz ∧ t.sz < 4294967296 ∧ 0 ≤ t.co ∧ t.co < t.sz ∧ Hid (Byt t.bs) ∧ t.n + j ≤ 900000000002 ∧ Hid (dnorm j t = takeS ⟨bs, n, co, sz⟩ lo ow al) ∧ Hid (Is wr d 120 .u32 t v) ∧ Hid (At d w wr))
  case atStart => exact ⟨⟨bs, n, x, r⟩, Nat.le_refl _, by show (256 : Int) ≤ r; omega, by simp only; omega, x0, by simp only; omega, BY, by simp only; omega, HT.out.symm, A4, O4⟩
  case round =>
    clear A4 O4 HT BY
    obtain ⟨t, hj2, hlw, ts1, t0, t1, BY, hnn, HN, A3, O3⟩ := hrel
    have d3 := A3.out.blk.cell (i := 3) rfl
    have f3 := A3.out.blk.free 3
    by_cases hc : t.sz < 16777216
    · have hg : 0 < gk := by
        rcases Nat.eq_zero_or_pos gk with h | h
        · subst h; have : (16777216 : Int) ≤ t.sz := hlw; omega
        · exact h
      obtain ⟨j, rfl⟩ : ∃ j, gk = j + 1 := ⟨gk - 1, by omega⟩
      have HSt : Hid (dnorm (j + 1) t = dnorm j (nextS ⟨t.bs, t.n, t.co, t.sz * 256⟩)) := Lib.hid (by show (if t.sz < 16777216 then dnorm j (nextS ⟨t.bs, t.n, t.co, t.sz * 256⟩) else t) = _; rw [if_pos hc])
      have hlw2 : Enc.lw j ≤ t.sz * 256 := by
        rcases (show j = 0 ∨ j = 1 by omega) with h | h
        · subst h; have : (65536 : Int) ≤ t.sz := hlw; show (16777216 : Int) ≤ _; omega
        · subst h; have : (256 : Int) ≤ t.sz := hlw; show (65536 : Int) ≤ _; omega
      have NX := Lib.hid (next_calls (A3.out.sz_ (t.sz * 256)) BY.out t0 (by simp only; omega) (by simp only; omega))
      have O4 := Lib.hid (At.cell O3.out 3 (.int .u32 (t.sz * 256)))
      have w1 : IntKind.u32.wrap (t.sz * 256) = t.sz * 256 := Enc.wraps_u32 _ (by omega) (by omega)
      have hbt := bt_bd (s := ⟨t.bs, t.n, t.co, t.sz * 256⟩) BY.out
      clear hlw
      obtain ⟨tsz, htz⟩ : ∃ tsz, t.sz = tsz := ⟨_, rfl⟩
      rw [htz] at d3 ts1 t1 hc hlw2 O4 NX HSt w1 hbt
      clear htz
      go_wp2_with (go_at_call 67; refine NX.out.mono ?_; rintro e w4 ⟨rfl, a4, o4⟩; have A4 := Lib.hid a4; have O5 := Lib.hid (O4.out.trans o4); clear a4 o4)
      go_roundg j
      case measure => omega
      case rel => exact ⟨nextS ⟨t.bs, t.n, t.co, tsz * 256⟩, by omega, hlw2, by show tsz * 256 < _; omega, by show 0 ≤ t.co * 256 + _; omega, by show t.co * 256 + _ < tsz * 256; omega, BY, by show t.n + 1 + j ≤ _; omega, HSt.out.symm.trans HN.out, A4, O5⟩
    · have HF : Hid (takeS ⟨bs, n, co, sz⟩ lo ow al = t) := Lib.hid (HN.out.symm.trans (by
        cases gk with
        | zero => rfl
        | succ j => show (if t.sz < 16777216 then dnorm j _ else t) = _; rw [if_neg hc]))
      clear HN
      go_wp2
      rw [HF.out]
      exact bodyPost_end (results_none rfl _ _ _) rfl ⟨rfl, A3.out, O3.out⟩
theorem dnorm_ready (k : Nat) (hk : k ≤ 2) : ∀ t : DSt, Byt t.bs → 0 ≤ t.co → t.co < t.sz → Enc.lw k ≤ t.sz → t.sz < 4294967296 → (dnorm k t).Ready ∧ (dnorm k t).bs = t.bs ∧ t.n ≤ (dnorm k t).n ∧ (dnorm k t).n ≤ t.n + k ∧ (dnorm k t).co < (dnorm k t).sz := by
  induction k with
  | zero => intro t h1 h2 h3 h4 h5; exact ⟨⟨h1, h2, by simp only [dnorm]; omega, h4, h5⟩, rfl, Nat.le_refl _, Nat.le_refl _, h3⟩
  | succ k ih =>
    intro t h1 h2 h3 h4 h5
    unfold dnorm
    by_cases hc : t.sz < 16777216
    · rw [if_pos hc]
      have hlw2 : Enc.lw k ≤ t.sz * 256 := by
        rcases (show k = 0 ∨ k = 1 by omega) with h | h
        · subst h; have : (65536 : Int) ≤ t.sz := h4; show (16777216 : Int) ≤ _; omega
        · subst h; have : (256 : Int) ≤ t.sz := h4; show (65536 : Int) ≤ _; omega
      have hb := bt_bd (s := ⟨t.bs, t.n, t.co, t.sz * 256⟩) h1
      obtain ⟨r1, r2, r3, r4, r5⟩ := ih (by omega) (nextS ⟨t.bs, t.n, t.co, t.sz * 256⟩) h1 (by show 0 ≤ t.co * 256 + _; omega) (by show t.co * 256 + _ < t.sz * 256; omega) hlw2 (by show t.sz * 256 < _; omega)
      have e1 : (nextS ⟨t.bs, t.n, t.co, t.sz * 256⟩).n = t.n + 1 := rfl
      exact ⟨r1, r2, by omega, by omega, r5⟩
    · rw [if_neg hc]
      exact ⟨⟨h1, h2, by omega, by omega, h5⟩, rfl, Nat.le_refl _, by omega, h3⟩
/-- What is taken may be taken. -/
theorem take_ready {s : DSt} (ok : s.Ready) {lo ow al : Int} (may : Enc.May lo ow al) (le : s.sz / al * lo ≤ s.co) : (takeS s lo ow al).Ready ∧ (takeS s lo ow al).bs = s.bs ∧ s.n ≤ (takeS s lo ow al).n ∧ (takeS s lo ow al).n ≤ s.n + 2 := by
  obtain ⟨p0, p1, p2, p3⟩ := may
  have s0 := ok.s0
  have s1 := ok.s1
  obtain ⟨each, hE⟩ : ∃ each, each = s.sz / al := ⟨_, rfl⟩
  have b2 := Enc.mul_bd each ow al s.sz hE (by omega) (by omega) (by omega) (by omega)
  have b3 := Enc.each_lo al s.sz (by omega) p3 s0
  have b4 : each * 1 ≤ each * ow := Int.mul_le_mul_of_nonneg_left p1 (by rw [hE]; omega)
  unfold takeS
  rw [← hE] at b3 le ⊢
  obtain ⟨r1, r2, r3, r4, _⟩ := dnorm_ready 2 (by omega) ⟨s.bs, s.n, min (s.co - each * lo) (each * ow - 1), each * ow⟩ ok.by_ (by simp only; omega) (by simp only; omega) (by show (256 : Int) ≤ each * ow; omega) (by simp only; omega)
  exact ⟨r1, r2, r3, r4⟩
/-- The part that is there, lies at or below the number. -/
theorem at_le {s : DSt} (ok : s.Ready) {al x : Int} (a0 : 1 ≤ al) (a1 : al ≤ 8192) (h : x ≤ atS s al) : s.sz / al * x ≤ s.co := by
  have b3 := Enc.each_lo al s.sz a0 a1 ok.s0
  have h2 : x ≤ s.co / (s.sz / al) := by unfold atS at h; omega
  have h3 : s.sz / al * x ≤ s.sz / al * (s.co / (s.sz / al)) := Int.mul_le_mul_of_nonneg_left h2 (by omega)
  have h4 : s.sz / al * (s.co / (s.sz / al)) ≤ s.co := by rw [Int.mul_comm]; exact Int.ediv_mul_le _ (by omega)
  omega
theorem at_bd {s : DSt} (ok : s.Ready) {al : Int} (a0 : 1 ≤ al) (a1 : al ≤ 8192) : 0 ≤ atS s al ∧ atS s al ≤ al - 1 := by
  have b3 := Enc.each_lo al s.sz a0 a1 ok.s0
  have h2 : 0 ≤ s.co / (s.sz / al) := Int.ediv_nonneg ok.c0 (by omega)
  unfold atS
  omega
theorem next_bd {s : DSt} (h : Byt s.bs) {B : Int} (h0 : 0 ≤ s.co) (h1 : s.co < B) : Byt (nextS s).bs ∧ 0 ≤ (nextS s).co ∧ (nextS s).co < B * 256 := by
  have := bt_bd h
  exact ⟨h, by show 0 ≤ s.co * 256 + bt s; omega, by show s.co * 256 + bt s < _; omega⟩
theorem open_ready (bs : List Int) (h : Byt bs) : (openS bs).Ready := by
  have h1 := next_bd (s := ⟨bs, 0, 0, 4294967295⟩) h (B := 1) (by show (0 : Int) ≤ 0; decide) (by show (0 : Int) < 1; decide)
  have h2 := next_bd h1.1 h1.2.1 h1.2.2
  have h3 := next_bd h2.1 h2.2.1 h2.2.2
  have h4 := next_bd h3.1 h3.2.1 h3.2.2
  refine ⟨h4.1, h4.2.1, ?_, by show (16777216 : Int) ≤ 4294967295; decide, by show (4294967295 : Int) < 4294967296; decide⟩
  show (openS bs).co ≤ 4294967295
  have := h4.2.2
  unfold openS
  omega
theorem Sl.empty (w : World) (e : TypeId) (k : IntKind) : Sl (w.alloc (.cells #[] e)) e k (.slice (some ⟨w.heap.size, 0, none⟩) 0 0) [] :=
  .inr ⟨w.heap.size, 0, rfl, #[], Blk.new w e #[], Nat.le_refl _, Nat.zero_le _, rfl, fun i h => by cases h⟩
theorem Added.fresh {w w1 : World} {o : Obj} {e : TypeId} {k : IntKind} {v1 : Value} {ys : List Int} (h : Added (w.alloc o) w1 e k (.slice (some ⟨w.heap.size, 0, none⟩) 0 0) v1 ys (w.alloc o).heap.size) :
    Below w.heap.size w w1 ∧ ∀ g, v1.ownBlock = some g → w.heap.size ≤ g := by
  have hs : (w.alloc o).heap.size = w.heap.size + 1 := by simp
  have e0 : (Value.slice (some ⟨w.heap.size, 0, none⟩) 0 0).ownBlock = some w.heap.size := rfl
  refine ⟨((Below.refl _ _).alloc (Nat.le_refl _) _ : Below _ _ _).trans (h.only.below (B := w.heap.size) (by omega) (fun i hi => ?_)), fun g hg => ?_⟩
  · rw [e0] at hi; injection hi with hi; omega
  · rcases h.at_ with h1 | h1
    · rw [h1, e0] at hg; injection hg with hg; omega
    · rw [h1] at hg; injection hg with hg; omega
set_option maxRecDepth 100000 in
/-- A copy. -/
theorem Clone_calls {w : World} {u : Value} {bs : List Int} (src : Src w .u8 u bs) (hl : bs.length ≤ 1000000000) : Calls Try.prog 66 #[u] w fun e w' => ∃ v, e = .returned v ∧ Sl w' 5 .u8 v bs ∧ Below w.heap.size w w' ∧ (∀ g, v.ownBlock = some g → w.heap.size ≤ g) := by
  obtain ⟨A, c, rfl, h⟩ := src
  have H := Lib.hid h
  have qT : ∀ (w : World) (a : Option Addr) (n c n' c' : Nat), (binOp .eql 35 (.slice a n c) (.slice none n' c')).run Try.prog w = .ok (.bool a.isNone) w := fun w a n c n' c' => Lib.run_eql_slice_nil w _ _ a n c n' c' Try.underlying35
  cases A with
  | none =>
    have h0 : bs = [] := by
      by_cases hp : 0 < bs.length
      · obtain ⟨ad, h, _⟩ := h hp; cases h
      · exact List.eq_nil_of_length_eq_zero (by omega)
    subst h0
    clear h H hl
    go_enter Try.func66, Try.ntmps66
    go_wp2
    go_ret
    exact ⟨_, rfl, Sl.nil _ _ _, Below.refl _ _, fun g hg => by cases hg⟩
  | some ad =>
    clear h
    have h0 : Sl (w.alloc (.cells #[] 5)) 5 .u8 (.slice (some ⟨w.heap.size, 0, none⟩) 0 0) [] := Sl.empty w _ _
    have SR : Src (w.alloc (.cells #[] 5)) .u8 (.slice (some ad) bs.length c) bs := Src.below ⟨some ad, c, rfl, H.out⟩ ((Below.refl _ _).alloc (Nat.le_refl _) _)
    have S0 := Lib.hid h0
    have SR := Lib.hid SR
    clear h0
    go_enter Try.func66, Try.ntmps66
    go_wp2_with (first
      | (at_builtin; refine wpList_add (.tmp 5) (.tmp 6) 35 5 .u8 0 1 rfl rfl Try.underlying35 Enc.info_u8 _ _ [] bs rfl rfl S0.out SR.out (by simp; omega) (by simp; omega) ?_
         intro v1 w1 hp
         have HP := Lib.hid hp
         clear hp))
    go_ret
    exact ⟨v1, rfl, HP.out.sl, Added.fresh HP.out⟩
def nexts : Nat → DSt → DSt
  | 0, s => s
  | n + 1, s => nexts n (nextS s)
theorem open_nexts (bs : List Int) : openS bs = nexts 4 ⟨bs, 0, 0, 4294967295⟩ := rfl
theorem pow_lt4 {k : Nat} (h : k < 4) : (256 : Int) ^ k ≤ 16777216 := by
  rcases (show k = 0 ∨ k = 1 ∨ k = 2 ∨ k = 3 by omega) with h | h | h | h <;> subst h <;> decide
set_option maxHeartbeats 2000000 in
set_option maxRecDepth 100000 in
theorem New_calls {w : World} {u : Value} {bs : List Int} (src : Src w .u8 u bs) (hb : Byt bs) :
    Calls Try.prog 33 #[u] w fun e w' => ∃ d v, e = .returned (.pointer (some ⟨d, 0, none⟩)) ∧ w.heap.size ≤ d ∧ (∀ g, v.ownBlock = some g → w.heap.size ≤ g) ∧ Is w' d 120 .u32 (openS bs) v ∧ Below w.heap.size w w' := by
  have HC := Lib.hid (Clone_calls src hb.2)
  have HB := Lib.hid hb
  clear src hb
  go_enter Try.func33, Try.ntmps33
  go_wp2_with fail
  refine HC.out.mono ?_
  rintro e1 w1 ⟨v1, rfl, sl, b1, own⟩
  have hs1 := b1.size
  have S1 := Lib.hid sl
  have B1 := Lib.hid b1
  have O1 := Lib.hid own
  clear sl b1 own
  obtain ⟨ad, cap, rfl, _⟩ := S1.out.form
  have HI : Hid (Is (w1.alloc (.cells #[.slice ad bs.length cap, .int .i64 0, .int .u32 0, .int .u32 4294967295] 120)) w1.heap.size 120 .u32 ⟨bs, 0, 0, 4294967295⟩ (.slice ad bs.length cap)) :=
    Lib.hid ⟨Blk.new w1 _ _, S1.out.alloc _, fun e => by have := S1.out.lt e; omega⟩
  have B2 : Hid (Below w.heap.size w (w1.alloc (.cells #[.slice ad bs.length cap, .int .i64 0, .int .u32 0, .int .u32 4294967295] 120))) := Lib.hid (B1.out.alloc hs1 _)
  clear B1
  go_wp2_with fail
  go_loopw [8] (fun i wr => ∃ (k : Nat) (t : DSt), k ≤ 4 ∧ i = .int .i64 (k : Int) ∧ Hid (nexts (4 - k) t = openS bs) ∧ Hid (Byt t.bs) ∧ 0 ≤ t.co ∧ Hid (t.co < 256 ^ k) ∧ t.n = k ∧ Hid (Is wr w1.heap.size 120 .u32 t (.slice ad bs.length cap)) ∧ Hid (Below w.heap.size w wr)) (fun i _ => 4 - (intOf i).toNat)
  case atStart => exact ⟨0, ⟨bs, 0, 0, 4294967295⟩, by omega, rfl, rfl, HB, by simp only; omega, Lib.hid (by show (0 : Int) < 256 ^ 0; decide), rfl, HI, B2⟩
  case round =>
    clear HI B2 HB
    obtain ⟨k, t, hk, rfl, HN, HB, t0, HL, hn, HI, B2⟩ := hrel
    by_cases hlt : k < 4
    · have hp := pow_lt4 hlt
      have hL := HL.out
      have NX := Lib.hid (next_calls HI.out HB.out t0 (by omega) (by omega))
      clear hp hL
      go_wp2_with (go_at_call 67; refine NX.out.mono ?_; rintro e w4 ⟨rfl, a4, o4⟩; have A4 := Lib.hid a4; have O5 := Lib.hid o4; clear a4 o4)
      go_roundw
      case rel =>
        have hbt := bt_bd HB.out
        refine ⟨k + 1, nextS t, by omega, by push_cast; rfl, ?_, HB, by show 0 ≤ t.co * 256 + _; omega, ?_, by show t.n + 1 = k + 1; omega, A4, B2.out.trans (O5.out.below (by have := B2.out.size; omega) (fun i hi => by omega))⟩
        · have e : 4 - k = (4 - (k + 1)) + 1 := by omega
          have := HN.out
          rw [e] at this
          exact this
        · have hL := HL.out
          show t.co * 256 + _ < (256 : Int) ^ (k + 1)
          rw [Int.pow_succ]; omega
      case measure => simp [intOf]; omega
    · obtain rfl : k = 4 := by omega
      have hN : t = openS bs := HN.out
      subst hN
      go_wp2
      go_ret
      exact ⟨w1.heap.size, _, rfl, hs1, O1.out, HI.out, B2.out⟩
end Go.Proofs.Ytlbjoflmfboeeaa.Deco

/-
  The walks of the program's decoder: Symbol, Bits, Over; no condition but those told.
-/
set_option linter.unusedVariables false
set_option linter.unusedSimpArgs false
namespace Go.Proofs.Ytlbjoflmfboeeaa.Deco
open Go.RowKit Go.Proofs.Ytlbjoflmfboeeaa Go.Proofs.YtlbjoflmfboeeaaW.PrintWords

/-- The symbol that comes. -/
def symK (s : DSt) (L : List Int) : Nat := Mdl.find L (atS s (Mdl.lsum L))
def symS (s : DSt) (L : List Int) : DSt := takeS s (Mdl.lsum (L.take (symK s L))) (L.getD (symK s L) 0) (Mdl.lsum L)
theorem find_low (L : List Int) (x : Int) (h0 : 0 ≤ x) : Mdl.lsum (L.take (Mdl.find L x)) ≤ x := by
  rcases Nat.eq_zero_or_pos (Mdl.find L x) with h | h
  · rw [h]; exact h0
  · have := Mdl.find_before L x (Mdl.find L x - 1) (by omega)
    rwa [show Mdl.find L x - 1 + 1 = Mdl.find L x from by omega] at this
theorem sym_lt {s : DSt} {L : List Int} (good : Mdl.Good L) : symK s L < L.length := Mdl.find_lt L _ good.len1
theorem sym_le {s : DSt} (ok : s.Ready) {L : List Int} (good : Mdl.Good L) : s.sz / Mdl.lsum L * Mdl.lsum (L.take (symK s L)) ≤ s.co :=
  at_le ok good.sum1 good.all (find_low L _ (at_bd ok good.sum1 good.all).1)
theorem sym_ready {s : DSt} (ok : s.Ready) {L : List Int} (good : Mdl.Good L) : (symS s L).Ready ∧ (symS s L).bs = s.bs ∧ s.n ≤ (symS s L).n ∧ (symS s L).n ≤ s.n + 2 :=
  take_ready ok (Enc.may_of good _ (sym_lt good)) (sym_le ok good)
attribute [local irreducible] takeS atS bt
set_option maxHeartbeats 2000000 in
set_option maxRecDepth 100000 in
theorem Symbol_yes {w : World} {d m h cap : Nat} {s : DSt} {v : Value} {L : List Int} {f : Bool} (a : Is w d 120 .u32 s v) (ok : s.Ready) (hn : s.n ≤ 900000000000) (b : Mdl.Is w m h cap L f) (good : Mdl.Good L)
    (n1 : d ≠ m) (n2 : d ≠ h) (n3 : v.ownBlock ≠ some m) (n4 : v.ownBlock ≠ some h) :
    Calls Try.prog 35 #[.pointer (some ⟨d, 0, none⟩), .pointer (some ⟨m, 0, none⟩)] w fun e w' => e = .returned (.tuple #[.int .i64 (symK s L), .int .i64 0]) ∧
      Is w' d 120 .u32 (symS s L) v ∧ Mdl.Is w' m h cap (Mdl.next f L (symK s L)) f ∧ Only (fun i => i = d ∨ (i = m ∨ i = h)) w w' := by
  have A := Lib.hid a
  have B := Lib.hid b
  have G := Lib.hid good
  have OK := Lib.hid ok
  have N3 := Lib.hid n3
  have N4 := Lib.hid n4
  have lm := b.blk.lt
  have lh := b.row.lt
  have ld := a.blk.lt
  have OL : Hid (∀ g, v.ownBlock = some g → g < w.heap.size) := Lib.hid (fun g hg => a.sl.lt hg)
  have HK := Lib.hid (sym_lt (s := s) good)
  have MY := Lib.hid (Enc.may_of good _ (sym_lt (s := s) good))
  have LE := Lib.hid (sym_le ok good)
  have HS : Hid (symS s L = takeS s (Mdl.lsum (L.take (symK s L))) (L.getD (symK s L) 0) (Mdl.lsum L)) := Lib.hid rfl
  have HF : Hid (Mdl.find L (atS s (Mdl.lsum L)) = symK s L) := Lib.hid rfl
  have AB := Lib.hid (at_bd ok good.sum1 good.all)
  have l1 := good.len1
  have P1 := Lib.hid (Mdl.Part_some b good 0 (by omega))
  have al0 := Lib.hid good.sum1
  have al1 := Lib.hid good.all
  clear a b good ok n3 n4
  obtain ⟨al, hal⟩ : ∃ al, Mdl.lsum L = al := ⟨_, rfl⟩
  rw [hal] at MY LE HS HF AB P1 al0 al1
  obtain ⟨x0, hx0⟩ : ∃ x, Mdl.lsum (L.take 0) = x := ⟨_, rfl⟩
  obtain ⟨y0, hy0⟩ : ∃ x, L.getD 0 0 = x := ⟨_, rfl⟩
  rw [hx0, hy0] at P1
  clear hx0 hy0
  have HA := Lib.hid hal
  clear hal
  obtain ⟨k, hk⟩ : ∃ k, symK s L = k := ⟨_, rfl⟩
  rw [hk] at HK MY LE HS HF ⊢
  clear hk
  obtain ⟨lo, hlo⟩ : ∃ x, Mdl.lsum (L.take k) = x := ⟨_, rfl⟩
  obtain ⟨ow, how⟩ : ∃ x, L.getD k 0 = x := ⟨_, rfl⟩
  rw [hlo, how] at MY HS
  rw [hlo] at LE
  have HLo := Lib.hid hlo
  have HOw := Lib.hid how
  clear hlo how
  unfold Mdl.part at P1
  go_enter Try.func35, Try.ntmps35
  go_wp2_with fail
  refine P1.out.mono ?_
  rintro e1 w1 ⟨rfl, b1⟩
  have s1 := b1.size
  have B1 := Lib.hid b1
  clear b1
  go_wp2_with fail
  have hb2 : Below w.heap.size w (w1.alloc (.cells #[.int .u32 x0, .int .u32 y0, .int .u32 al] 31)) := B1.out.alloc s1 _
  have A2 := Lib.hid (A.out.below hb2)
  have M2 : Hid (Mdl.Is (w1.alloc (.cells #[.int .u32 x0, .int .u32 y0, .int .u32 al] 31)) m h cap L f) := Lib.hid (B.out.only (Only.of_below hb2 : Only (fun _ => False) _ _) (fun x => x) (fun x => x))
  have PB := Lib.hid (Blk.new w1 31 #[.int .u32 x0, .int .u32 y0, .int .u32 al])
  have O2 : Hid (Only (fun i => i = d ∨ (i = m ∨ i = h)) w (w1.alloc (.cells #[.int .u32 x0, .int .u32 y0, .int .u32 al] 31))) := Lib.hid (Only.of_below hb2)
  have l2 : w1.heap.size < (w1.alloc (.cells #[.int .u32 x0, .int .u32 y0, .int .u32 al] 31)).heap.size := by simp
  clear hb2 A B B1
  refine (at_calls A2.out OK.out al al0.out al1.out).mono ?_
  rintro e2 w2 ⟨rfl, nq, rfl⟩
  have A3 := Lib.hid (A2.out.drewN nq)
  have M3 := Lib.hid (M2.out.drewN nq)
  have PB3 := Lib.hid (PB.out.drewN nq)
  have O3 := Lib.hid (O2.out.drewN nq)
  have l3 : w1.heap.size < ((w1.alloc (.cells #[.int .u32 x0, .int .u32 y0, .int .u32 al] 31)).drewN nq).heap.size := l2
  clear A2 M2 PB O2 l2
  generalize (w1.alloc (.cells #[.int .u32 x0, .int .u32 y0, .int .u32 al] 31)).drewN nq = w3 at *
  generalize w1.heap.size = p at *
  go_wp2_with fail
  have FD := Lib.hid (Mdl.Find_some M3.out G.out (atS s al) AB.out.1 (by have := AB.out.2; have := al1.out; omega))
  rw [HF.out] at FD
  refine FD.out.mono ?_
  rintro e4 w4 ⟨rfl, rfl⟩
  go_wp2_with fail
  have P5 := Lib.hid (Mdl.Part_some M3.out G.out k HK.out)
  rw [HLo.out, HOw.out, HA.out] at P5
  refine P5.out.mono ?_
  rintro e5 w5 ⟨rfl, b5⟩
  have A5 := Lib.hid (A3.out.below b5)
  have M5 : Hid (Mdl.Is w5 m h cap L f) := Lib.hid (M3.out.only (Only.of_below b5 : Only (fun _ => False) _ _) (fun x => x) (fun x => x))
  have PB5 := Lib.hid (PB3.out.below b5 l3)
  have O5 : Hid (Only (fun i => i = d ∨ (i = m ∨ i = h)) w w5) := Lib.hid (O3.out.trans (Only.of_below b5))
  clear FD P5 b5 A3 M3 PB3 O3 l3
  unfold Mdl.part
  have f0 := PB5.out.free 0
  have f1 := PB5.out.free 1
  have f2 := PB5.out.free 2
  have q0 := PB5.out.cell (i := 0) rfl
  have q1 := PB5.out.cell (i := 1) rfl
  have q2 := PB5.out.cell (i := 2) rfl
  go_wp2_with fail
  have hp : w.heap.size ≤ p := by omega
  have O6 : Hid (Only (fun i => i = d ∨ (i = m ∨ i = h)) w (((w5.setCell ⟨p, 0, none⟩ (.int .u32 lo)).setCell ⟨p, 1, none⟩ (.int .u32 ow)).setCell ⟨p, 2, none⟩ (.int .u32 al))) :=
    Lib.hid (((O5.out.set (p := ⟨p, 0, none⟩) (.inr hp) _).set (p := ⟨p, 1, none⟩) (.inr hp) _).set (p := ⟨p, 2, none⟩) (.inr hp) _)
  have oP : Only (fun i => i = p) w5 (((w5.setCell ⟨p, 0, none⟩ (.int .u32 lo)).setCell ⟨p, 1, none⟩ (.int .u32 ow)).setCell ⟨p, 2, none⟩ (.int .u32 al)) :=
    At.cell (At.cell (At.cell (At.refl p w5) 0 _) 1 _) 2 _
  have A6 := Lib.hid (A5.out.only oP (by omega) (fun g hg => by have := OL.out g hg; omega))
  have M6 := Lib.hid (M5.out.only oP (by omega) (by omega))
  clear oP A5 M5 PB5 O5 f0 f1 f2 q0 q1 q2 OL
  generalize (((w5.setCell ⟨p, 0, none⟩ (.int .u32 lo)).setCell ⟨p, 1, none⟩ (.int .u32 ow)).setCell ⟨p, 2, none⟩ (.int .u32 al)) = w6 at *
  refine (take_calls A6.out OK.out lo ow al MY.out LE.out hn).mono ?_
  rintro e7 w7 ⟨rfl, a7, o7⟩
  have A7 := Lib.hid a7
  have M7 := Lib.hid (M6.out.only o7 (fun e => n1 e.symm) (fun e => n2 e.symm))
  have O7 : Hid (Only (fun i => i = d ∨ (i = m ∨ i = h)) w w7) := Lib.hid (O6.out.then o7 (fun i hi => .inl (.inl hi)))
  clear a7 o7 A6 M6 O6
  go_wp2_with fail
  refine (Mdl.Learn_any M7.out G.out k HK.out).mono ?_
  rintro e8 w8 ⟨rfl, b8, o8⟩
  have A8 := Lib.hid (A7.out.only o8 (fun hh => by rcases hh with hh | hh; exact n1 hh; exact n2 hh) (fun g hg hh => by
    rcases hh with hh | hh
    · subst hh; exact N3.out hg
    · subst hh; exact N4.out hg))
  have M8 := Lib.hid b8
  have O8 : Hid (Only (fun i => i = d ∨ (i = m ∨ i = h)) w w8) := Lib.hid (O7.out.then o8 (fun i hi => .inl (.inr hi)))
  clear b8 o8
  go_wp2_with fail
  go_ret2
  rw [HS.out]
  exact ⟨rfl, A8.out, M8.out, O8.out⟩
theorem Symbol_none {w : World} {m h cap : Nat} {L : List Int} {f : Bool} (b : Mdl.Is w m h cap L f) (good : Mdl.Good L) :
    Calls Try.prog 35 #[.pointer none, .pointer (some ⟨m, 0, none⟩)] w fun en w' => en = .returned (.tuple #[.int .i64 0, .int .i64 1]) ∧ Below w.heap.size w w' := by
  have P1 := Lib.hid (Mdl.Part_some b good 0 (by have := good.len1; omega))
  clear b good
  generalize Mdl.lsum L = al at *
  generalize Mdl.lsum (L.take 0) = x0 at *
  generalize L.getD 0 0 = y0 at *
  unfold Mdl.part at P1
  go_enter Try.func35, Try.ntmps35
  go_wp2_with fail
  refine P1.out.mono ?_
  rintro e1 w1 ⟨rfl, b1⟩
  have s1 := b1.size
  have B1 := Lib.hid b1
  clear b1
  go_wp2_with fail
  go_ret2
  exact ⟨rfl, B1.out.alloc s1 _⟩
theorem Symbol_nomodel (d : Nat) (w : World) :
    Calls Try.prog 35 #[.pointer (some ⟨d, 0, none⟩), .pointer none] w fun en w' => en = .returned (.tuple #[.int .i64 0, .int .i64 1]) ∧ Below w.heap.size w w' := by
  have P1 := Lib.hid (Mdl.Part_none (.int .i64 0) w)
  unfold Mdl.part at P1
  go_enter Try.func35, Try.ntmps35
  go_wp2_with fail
  refine P1.out.mono ?_
  rintro e1 w1 ⟨rfl, b1⟩
  have s1 := b1.size
  have B1 := Lib.hid b1
  clear b1
  go_wp2_with fail
  go_ret2
  exact ⟨rfl, B1.out.alloc s1 _⟩
theorem Over_none (w : World) : Calls Try.prog 39 #[.pointer none] w fun en w' => en = .returned (.int .i64 0) ∧ w' = w := by
  go_enter Try.func39, Try.ntmps39
  go_wp2
  go_ret
  exact ⟨rfl, rfl⟩
theorem Over_calls {w : World} {d : Nat} {s : DSt} {v : Value} (a : Is w d 120 .u32 s v) (hb : s.bs.length ≤ 1000000000) (hn : s.n ≤ 1000000000000) :
    Calls Try.prog 39 #[.pointer (some ⟨d, 0, none⟩)] w fun en w' => en = .returned (.int .i64 (max ((s.n : Int) - s.bs.length) 0)) ∧ ∃ n, w' = w.drewN n := by
  obtain ⟨ad, cap, rfl, _⟩ := a.sl.form
  have d0 := a.blk.cell (i := 0) rfl
  have d1 := a.blk.cell (i := 1) rfl
  obtain ⟨bs, n, co, sz⟩ := s
  simp only at *
  generalize bs.length = l at *
  clear a
  have w1 : IntKind.i64.wrap ((n : Int) - l) = (n : Int) - l := wrapI64 (by omega) (by omega)
  by_cases hc : (n : Int) - l < 0
  · have hm : max ((n : Int) - l) 0 = 0 := by omega
    rw [hm]
    go_enter Try.func39, Try.ntmps39
    go_wp2
    go_quiet (fail)
    go_wp2
    go_ret
    exact ⟨rfl, nq, rfl⟩
  · have hm : max ((n : Int) - l) 0 = (n : Int) - l := by omega
    rw [hm]
    go_enter Try.func39, Try.ntmps39
    go_wp2
    go_quiet (fail)
    go_wp2
    go_ret
    exact ⟨rfl, nq, rfl⟩
/-- The number and the state behind so many bits; n came before. -/
def bitsD (s : DSt) (n : Int) (w : Nat) : Int × DSt :=
  if w = 0 then (n, s) else if w ≤ 12 then (n * 2 ^ w + atS s (2 ^ w), takeS s (atS s (2 ^ w)) 1 (2 ^ w))
  else ((n * 4096 + atS s 4096) * 2 ^ (w - 12) + atS (takeS s (atS s 4096) 1 4096) (2 ^ (w - 12)), takeS (takeS s (atS s 4096) 1 4096) (atS (takeS s (atS s 4096) 1 4096) (2 ^ (w - 12))) 1 (2 ^ (w - 12)))
theorem bits_step (s : DSt) (n : Int) (j i : Nat) (hi : j = i + 12) (h0 : 0 < i) (h12 : i ≤ 12) : bitsD s n j = bitsD (takeS s (atS s 4096) 1 4096) (n * 4096 + atS s 4096) i := by
  unfold bitsD
  rw [if_neg (by omega), if_neg (by omega), if_neg (by omega), if_pos (by omega), show j - 12 = i from by omega]
theorem bits_last (s : DSt) (n : Int) (j : Nat) (h0 : 0 < j) (h12 : j ≤ 12) : bitsD s n j = (n * 2 ^ j + atS s (2 ^ j), takeS s (atS s (2 ^ j)) 1 (2 ^ j)) := by
  unfold bitsD
  rw [if_neg (by omega), if_pos h12]
theorem bits_nought (s : DSt) (n : Int) : bitsD s n 0 = (n, s) := by unfold bitsD; rw [if_pos rfl]
theorem pow12 {j : Nat} (h : j ≤ 12) : (1 : Int) ≤ 2 ^ j ∧ (2 : Int) ^ j ≤ 4096 := by
  have h3 : (0 : Int) < 2 ^ j := Int.pow_pos (by omega)
  have h4 := Nat.pow_le_pow_right (show 0 < 2 by decide) h
  have h5 : (2 : Int) ^ j ≤ 2 ^ 12 := by exact_mod_cast h4
  have e12 : (2 : Int) ^ 12 = 4096 := by decide
  omega
theorem pow24 {j : Nat} (h : j ≤ 24) : (1 : Int) ≤ 2 ^ j ∧ (2 : Int) ^ j ≤ 16777216 := by
  have h3 : (0 : Int) < 2 ^ j := Int.pow_pos (by omega)
  have h4 := Nat.pow_le_pow_right (show 0 < 2 by decide) h
  have h5 : (2 : Int) ^ j ≤ 2 ^ 24 := by exact_mod_cast h4
  have e24 : (2 : Int) ^ 24 = 16777216 := by decide
  omega
/-- One step: at most twelve bits. -/
theorem bits_more {s : DSt} (ok : s.Ready) {n : Int} {j : Nat} (hj : 0 < j) (h24 : j ≤ 24) : ∃ k i : Nat, 0 < k ∧ k ≤ 12 ∧ j = i + k ∧ k = min j 12 ∧ bitsD s n j = bitsD (takeS s (atS s (2 ^ k)) 1 (2 ^ k)) (n * 2 ^ k + atS s (2 ^ k)) i := by
  by_cases hc : 12 < j
  · exact ⟨12, j - 12, by omega, by omega, by omega, by omega, bits_step s n j (j - 12) (by omega) (by omega) (by omega)⟩
  · refine ⟨j, 0, hj, by omega, by omega, by omega, ?_⟩
    rw [bits_nought, bits_last s n j hj (by omega)]
theorem at_may {s : DSt} (ok : s.Ready) {al : Int} (a0 : 1 ≤ al) (a1 : al ≤ 8192) : Enc.May (atS s al) 1 al := by
  have := at_bd ok a0 a1
  exact ⟨this.1, by omega, by omega, a1⟩
theorem at_ready {s : DSt} (ok : s.Ready) {al : Int} (a0 : 1 ≤ al) (a1 : al ≤ 8192) : (takeS s (atS s al) 1 al).Ready ∧ (takeS s (atS s al) 1 al).bs = s.bs ∧ s.n ≤ (takeS s (atS s al) 1 al).n ∧ (takeS s (atS s al) 1 al).n ≤ s.n + 2 :=
  take_ready ok (at_may ok a0 a1) (at_le ok a0 a1 (Int.le_refl _))
theorem bits_ready {s : DSt} (ok : s.Ready) (n : Int) (w : Nat) (hw : w ≤ 24) : (bitsD s n w).2.Ready ∧ (bitsD s n w).2.bs = s.bs ∧ s.n ≤ (bitsD s n w).2.n ∧ (bitsD s n w).2.n ≤ s.n + 4 := by
  unfold bitsD
  split
  · exact ⟨ok, rfl, Nat.le_refl _, Nat.le_add_right _ _⟩
  · split
    · rename_i h0 h1
      have hp := pow12 h1
      obtain ⟨r1, r2, r3, r4⟩ := at_ready ok hp.1 (show (2 : Int) ^ w ≤ 8192 by omega)
      exact ⟨r1, r2, r3, Nat.le_trans r4 (by omega)⟩
    · rename_i h0 h1
      have hp := pow12 (show w - 12 ≤ 12 by omega)
      obtain ⟨r1, r2, r3, r4⟩ := at_ready ok (al := 4096) (by decide) (by decide)
      obtain ⟨q1, q2, q3, q4⟩ := at_ready r1 hp.1 (show (2 : Int) ^ (w - 12) ≤ 8192 by omega)
      exact ⟨q1, by rw [← r2, ← q2], Nat.le_trans r3 q3, Nat.le_trans q4 (by omega)⟩
theorem bits_bd {s : DSt} (ok : s.Ready) (w : Nat) (hw : w ≤ 24) : 0 ≤ (bitsD s 0 w).1 ∧ (bitsD s 0 w).1 < 16777216 := by
  unfold bitsD
  split
  · exact ⟨Int.le_refl _, by show (0 : Int) < 16777216; decide⟩
  · split
    · rename_i h0 h1
      have hp := pow12 h1
      have hb := at_bd ok hp.1 (show (2 : Int) ^ w ≤ 8192 by omega)
      constructor <;> (simp only; omega)
    · rename_i h0 h1
      have hp := pow12 (show w - 12 ≤ 12 by omega)
      have hb := at_bd ok (al := 4096) (by decide) (by decide)
      have hq := at_bd (at_ready ok (al := 4096) (by decide) (by decide)).1 hp.1 (show (2 : Int) ^ (w - 12) ≤ 8192 by omega)
      generalize atS (takeS s (atS s 4096) 1 4096) (2 ^ (w - 12)) = y at *
      generalize atS s 4096 = x at *
      generalize (2 : Int) ^ (w - 12) = p at *
      have h1 : (0 * 4096 + x) * p ≤ 4095 * p := Int.mul_le_mul_of_nonneg_right (by omega) (by omega)
      have h2 : 0 ≤ (0 * 4096 + x) * p := Int.mul_nonneg (by omega) (by omega)
      constructor <;> (simp only; omega)
attribute [local irreducible] bitsD
set_option maxHeartbeats 2000000 in
set_option maxRecDepth 100000 in
theorem Bits_yes {w : World} {d : Nat} {s : DSt} {v : Value} (a : Is w d 120 .u32 s v) (ok : s.Ready) (hn : s.n ≤ 800000000000) (wide : Nat) (h2 : wide ≤ 24) :
    Calls Try.prog 37 #[.pointer (some ⟨d, 0, none⟩), .int .i64 wide] w fun en w' => en = .returned (.tuple #[.int .u32 (bitsD s 0 wide).1, .int .i64 0]) ∧ Is w' d 120 .u32 (bitsD s 0 wide).2 v ∧ At d w w' := by
  have y1 : decide ((wide : Int) < 0) = false := decide_eq_false (by omega)
  have y2 : decide ((24 : Int) < (wide : Int)) = false := decide_eq_false (by omega)
  have A := Lib.hid a
  have R0 := Lib.hid ok
  clear a ok
  go_enter Try.func37, Try.ntmps37
  go_wp2
  clear y1 y2
  go_loopw [1, 6] (fun u nv wr => ∃ (j : Nat) (t : DSt) (n : Int), j ≤ 24 ∧ u = .int .i64 (j : Int) ∧ nv = .int .u32 n ∧ 0 ≤ n ∧ Hid ((n + 1) * 2 ^ j ≤ 16777216) ∧ Hid (bitsD t n j = bitsD s 0 wide) ∧ Hid t.Ready ∧ t.n + 4 * j ≤ 900000000000 ∧ Hid (Is wr d 120 .u32 t v) ∧ Hid (At d w wr)) (fun u _ _ => (intOf u).toNat)
  case atStart => exact ⟨wide, s, 0, h2, rfl, rfl, Int.le_refl _, Lib.hid (by have := pow24 h2; omega), rfl, R0, by omega, A, At.refl d w⟩
  case round =>
    clear A R0
    obtain ⟨j, t, n, hj, rfl, rfl, n0, HL, HN, R0, hkk, A, O⟩ := hrel
    have hd := A.out.blk.lt
    by_cases hz : 0 < j
    · obtain ⟨k, i, hk0, hk12, hji, hkm, hst⟩ := bits_more (n := n) R0.out hz hj
      have hp := pow12 hk12
      have HP := Lib.hid hp
      have hp8 : (2 : Int) ^ k ≤ 8192 := by omega
      have AR := Lib.hid (at_ready R0.out hp.1 hp8)
      have AM := Lib.hid (at_may R0.out hp.1 hp8)
      have AL := Lib.hid (at_le R0.out hp.1 hp8 (Int.le_refl _))
      have HSt := Lib.hid hst
      have ab := at_bd R0.out hp.1 hp8
      have hL : (n * 2 ^ k + atS t (2 ^ k) + 1) * 2 ^ i ≤ 16777216 ∧ n * 2 ^ k + atS t (2 ^ k) + 1 ≤ 16777216 := by
        have h1 := HL.out
        rw [hji, Nat.add_comm, Int.pow_add, ← Int.mul_assoc] at h1
        have hpi : (0 : Int) < 2 ^ i := Int.pow_pos (by omega)
        have h2 : (n + 1) * 2 ^ k = n * 2 ^ k + 2 ^ k := by rw [Int.add_mul, Int.one_mul]
        rw [h2] at h1
        have h3 : (n * 2 ^ k + atS t (2 ^ k) + 1) * 2 ^ i ≤ (n * 2 ^ k + 2 ^ k) * 2 ^ i := Int.mul_le_mul_of_nonneg_right (by omega) (by omega)
        have h4 : (n * 2 ^ k + atS t (2 ^ k) + 1) * 1 ≤ (n * 2 ^ k + atS t (2 ^ k) + 1) * 2 ^ i := Int.mul_le_mul_of_nonneg_left (by omega) (by have := Int.mul_nonneg n0 (show (0 : Int) ≤ 2 ^ k by omega); omega)
        omega
      have n1 : 0 ≤ n * 2 ^ k := Int.mul_nonneg n0 (by omega)
      have n2 : n * 2 ^ k < 16777216 := by omega
      have w2 : IntKind.u32.wrap (n * 2 ^ k) = n * 2 ^ k := Enc.wraps_u32 _ n1 (by omega)
      have w3 : bits .or .u32 (n * 2 ^ k) (atS t (2 ^ k)) = n * 2 ^ k + atS t (2 ^ k) := bits_join .u32 32 (by decide) Enc.wraps_u32 k _ _ n1 (Int.mul_emod_left _ _) (by omega) ab.1 (by omega) (by omega)
      have HLL := Lib.hid hL
      have HI : Hid (i < j ∧ i ≤ 24 ∧ t.n + 2 + 4 * i ≤ 900000000000) := Lib.hid (by omega)
      clear hst hL HL
      by_cases hc : 12 < j
      · obtain rfl : k = 12 := by omega
        have hji2 : (j : Int) - 12 = (i : Int) := by omega
        have z1 : (2 : Int) ^ 12 = 4096 := by decide
        rw [z1] at w2 w3 n1 n2 ab hp HP hp8 AR AM AL HSt HLL
        clear z1 hkm hji
        obtain ⟨x, hx⟩ : ∃ x, atS t 4096 = x := ⟨_, rfl⟩
        rw [hx] at w3 ab AR AM AL HSt HLL
        have HX := Lib.hid hx
        clear hx
        have CA := Lib.hid (at_calls A.out R0.out 4096 HP.out.1 (by have := HP.out.2; omega))
        rw [HX.out] at CA
        go_wp2_with fail
        refine CA.out.mono ?_
        rintro e1 w1 ⟨rfl, nq, rfl⟩
        have A1 := Lib.hid (A.out.drewN nq)
        have O1 := Lib.hid (O.out.drewN nq)
        have CT := Lib.hid (take_calls A1.out R0.out x 1 4096 AM.out AL.out (by omega))
        unfold Mdl.part at CT
        clear A O CA
        go_wp2_with fail
        refine CT.out.mono ?_
        rintro e2 w2 ⟨rfl, a2, o2⟩
        have A2 := Lib.hid a2
        have O2 := Lib.hid (O1.out.trans o2)
        clear a2 o2 A1 O1 CT
        go_wp2_with fail
        go_roundw
        case rel => exact ⟨i, takeS t x 1 4096, n * 4096 + x, HI.out.2.1, rfl, rfl, by omega, HLL.out.1, HSt.out.symm.trans HN.out, AR.out.1, by have := AR.out.2.2.2; have := HI.out.2.2; omega, A2, O2⟩
        case measure => simp [intOf]; exact HI.out.1
      · obtain rfl : k = j := by omega
        obtain rfl : i = 0 := by omega
        have m1 : min (k : Int) 12 = (k : Int) := by omega
        have m2 : mn (k : Int) 12 = (k : Int) := by unfold mn; omega
        have m3 : (if (12 : Int) < (k : Int) then (12 : Int) else (k : Int)) = (k : Int) := by omega
        have nm : min k 32 = k := by omega
        have w1 : IntKind.u32.wrap (2 ^ k) = 2 ^ k := Enc.wraps_u32 _ (by omega) (by omega)
        have k4 : ¬ ((k : Int) < 0) := by omega
        have k5 : decide ((k : Int) < 0) = false := decide_eq_false k4
        clear hkm hji
        obtain ⟨x, hx⟩ : ∃ x, atS t (2 ^ k) = x := ⟨_, rfl⟩
        rw [hx] at w3 ab AR AM AL HSt HLL
        have HX := Lib.hid hx
        clear hx
        have CA := Lib.hid (at_calls A.out R0.out (2 ^ k) HP.out.1 (by have := HP.out.2; omega))
        rw [HX.out] at CA
        go_wp2_with fail
        refine CA.out.mono ?_
        rintro e1 w1 ⟨rfl, nq, rfl⟩
        have A1 := Lib.hid (A.out.drewN nq)
        have O1 := Lib.hid (O.out.drewN nq)
        have CT := Lib.hid (take_calls A1.out R0.out x 1 (2 ^ k) AM.out AL.out (by omega))
        unfold Mdl.part at CT
        clear A O CA
        go_wp2_with fail
        refine CT.out.mono ?_
        rintro e2 w2 ⟨rfl, a2, o2⟩
        have A2 := Lib.hid a2
        have O2 := Lib.hid (O1.out.trans o2)
        clear a2 o2 A1 O1 CT
        go_wp2_with fail
        go_roundw
        case rel => exact ⟨0, takeS t x 1 (2 ^ k), n * (2 ^ k) + x, HI.out.2.1, rfl, rfl, by omega, HLL.out.1, HSt.out.symm.trans HN.out, AR.out.1, by have := AR.out.2.2.2; have := HI.out.2.2; omega, A2, O2⟩
        case measure => simp [intOf]; exact HI.out.1
    · obtain rfl : j = 0 := by omega
      rw [bits_nought] at HN
      have HF := Lib.hid HN.out.symm
      clear HN
      go_wp2
      go_ret2
      rw [HF.out]
      exact ⟨rfl, A.out, O.out⟩
theorem Bits_none (wide : Value) (w : World) : Calls Try.prog 37 #[.pointer none, wide] w fun en w' => en = .returned (.tuple #[.int .u32 0, .int .i64 1]) ∧ w' = w := by
  go_enter Try.func37, Try.ntmps37
  go_wp2
  go_ret2
  exact ⟨rfl, rfl⟩
theorem Bits_bad (d : Nat) (wide : Int) (hb : wide < 0 ∨ 24 < wide) (w : World) :
    Calls Try.prog 37 #[.pointer (some ⟨d, 0, none⟩), .int .i64 wide] w fun en w' => en = .returned (.tuple #[.int .u32 0, .int .i64 1]) ∧ w' = w := by
  by_cases h1 : wide < 0
  · clear hb
    go_enter Try.func37, Try.ntmps37
    go_wp2
    go_ret2
    exact ⟨rfl, rfl⟩
  have h2 : 24 < wide := by omega
  clear hb
  go_enter Try.func37, Try.ntmps37
  go_wp2
  go_ret2
  exact ⟨rfl, rfl⟩
end Go.Proofs.Ytlbjoflmfboeeaa.Deco

/-
  The walks of the document's decoder: next, Open, At, Take, Symbol, Bits; no condition but those told.
-/
set_option linter.unusedVariables false
set_option linter.unusedSimpArgs false
namespace Go.Proofs.Ytlbjoflmfboeeaa.Deco
open Go.RowKit Go.Proofs.Ytlbjoflmfboeeaa Go.Proofs.YtlbjoflmfboeeaaW.PrintWords

attribute [local irreducible] bt
set_option maxHeartbeats 2000000 in
set_option maxRecDepth 100000 in
theorem rnext_calls {w : World} {d : Nat} {s : DSt} {v : Value} (a : Is w d 69 .i64 s v) (hb : Byt s.bs) (c0 : 0 ≤ s.co) (c1 : s.co < 16777216) (hn : s.n ≤ 1000000000000) :
    Calls Try.prog 68 #[.pointer (some ⟨d, 0, none⟩)] w fun e w' => e = .returned (.tuple #[]) ∧ Is w' d 69 .i64 (nextS s) v ∧ At d w w' := by
  have hbt := bt_bd hb
  have HBt : Hid (bt s = s.bs.getD s.n 0) := Lib.hid (by unfold bt; rfl)
  have A := Lib.hid a
  obtain ⟨bs, n, co, sz⟩ := s
  simp only at *
  have d2 := a.blk.cell (i := 2) rfl
  have f2 := a.blk.free 2
  have hl := hb.2
  have HNx : Hid (nextS ⟨bs, n, co, sz⟩ = ⟨bs, n + 1, co * 256 + bt ⟨bs, n, co, sz⟩, sz⟩) := Lib.hid rfl
  generalize bt ⟨bs, n, co, sz⟩ = x at *
  clear a hb
  have e1 : IntKind.i64.wrap (co * 256) = co * 256 := wrapI64 (by omega) (by omega)
  go_enter Try.func68, Try.ntmps68
  go_wp2
  have A2 := Lib.hid (A.out.co_ (co * 256))
  have O2 := Lib.hid ((At.refl d w).cell 2 (.int .i64 (co * 256)))
  clear d2 f2 A
  generalize w.setCell ⟨d, 2, none⟩ (.int .i64 (co * 256)) = w2 at *
  have d0 := A2.out.blk.cell (i := 0) rfl
  have d1 := A2.out.blk.cell (i := 1) rfl
  have d2 := A2.out.blk.cell (i := 2) rfl
  have f1 := A2.out.blk.free 1
  have f2 := A2.out.blk.free 2
  by_cases hc : n < bs.length
  · obtain ⟨g, cap, rfl, hr⟩ : ∃ g cap, v = .slice (some ⟨g, 0, none⟩) bs.length cap ∧ RowI w2 5 .u8 g cap bs := by
      rcases A2.out.sl with ⟨_, h⟩ | h
      · simp only at h; subst h; simp at hc
      · exact h
    have d3 := hr.cell hc
    have hx : bs[n] = x := by rw [HBt.out, List.getD_eq_getElem?_getD, List.getElem?_eq_getElem hc]; rfl
    rw [hx] at d3
    have e2 : IntKind.i64.wrap (co * 256 + x) = co * 256 + x := wrapI64 (by omega) (by omega)
    have e3 : IntKind.i64.wrap x = x := wrapI64 (by omega) (by omega)
    have HC := Lib.hid hc
    have i1 : (n : Int) < bs.length := by omega
    clear hr hx HBt
    go_quiet (fail)
    have A3 := Lib.hid (A2.out.drewN nq)
    have O3 := Lib.hid (O2.out.drewN nq)
    clear d0 d1 d2 f1 f2 A2 O2
    have d3 : (w2.drewN nq).cell? ⟨g, n, none⟩ = some (.int .u8 x) := d3
    generalize w2.drewN nq = w3 at *
    have d0 := A3.out.blk.cell (i := 0) rfl
    have d1 := A3.out.blk.cell (i := 1) rfl
    have d2 := A3.out.blk.cell (i := 2) rfl
    have f1 := A3.out.blk.free 1
    have f2 := A3.out.blk.free 2
    go_wp2
    go_still_tail 19, (by kernel_rfl)
    go_wp2
    rw [HNx.out]
    exact bodyPost_end (results_none rfl _ _ _) rfl ⟨rfl, (A3.out.co_ _).inc.drew, ((At.cell O3.out 2 _).cell 1 _).drew⟩
  · have hx : x = 0 := by rw [HBt.out, List.getD_eq_getElem?_getD, List.getElem?_eq_none (by omega)]; rfl
    have HC := Lib.hid hc
    subst hx
    rw [Int.add_zero] at HNx
    obtain ⟨ad, cap, rfl, _⟩ := A2.out.sl.form
    have i1 : ¬ (n : Int) < bs.length := by omega
    clear HBt
    go_quiet (fail)
    have A3 := Lib.hid (A2.out.drewN nq)
    have O3 := Lib.hid (O2.out.drewN nq)
    clear d0 d1 d2 f1 f2 A2 O2
    generalize w2.drewN nq = w3 at *
    have d1 := A3.out.blk.cell (i := 1) rfl
    have f1 := A3.out.blk.free 1
    go_wp2
    rw [HNx.out]
    exact bodyPost_end (results_none rfl _ _ _) rfl ⟨rfl, A3.out.inc, At.cell O3.out 1 _⟩
theorem rat_calls {w : World} {d : Nat} {s : DSt} {v : Value} (a : Is w d 69 .i64 s v) (ok : s.Ready) (al : Int) (a0 : 1 ≤ al) (a1 : al ≤ 8192) :
    Calls Try.prog 73 #[.pointer (some ⟨d, 0, none⟩), .int .i64 al] w fun e w' => e = .returned (.int .i64 (atS s al)) ∧ ∃ n, w' = w.drewN n := by
  have d2 := a.blk.cell (i := 2) rfl
  have d3 := a.blk.cell (i := 3) rfl
  obtain ⟨each, hE⟩ : ∃ each, each = s.sz / al := ⟨_, rfl⟩
  have b3 := Enc.each_lo al s.sz a0 a1 ok.s0
  rw [← hE] at b3
  have HA : Hid (atS s al = min (s.co / each) (al - 1)) := Lib.hid (by unfold atS; rw [hE])
  have e1 : Int.tdiv s.sz al = each := by rw [hE, Int.tdiv_eq_ediv_of_nonneg (by have := ok.s0; omega)]
  have b5 : each ≤ s.sz := by rw [hE]; exact Int.ediv_le_self _ (by have := ok.s0; omega)
  obtain ⟨hb, c0, c1, s0, s1⟩ := ok
  obtain ⟨q, hq⟩ : ∃ q, q = s.co / each := ⟨_, rfl⟩
  have e2 : Int.tdiv s.co each = q := by rw [hq, Int.tdiv_eq_ediv_of_nonneg c0]
  have q0 : 0 ≤ q := by rw [hq]; exact Int.ediv_nonneg c0 (by omega)
  have q1 : q ≤ s.co := by rw [hq]; exact Int.ediv_le_self _ c0
  rw [← hq] at HA
  have z1 : al ≠ 0 := by omega
  have z2 : (al == 0) = false := by rw [beq_eq_false_iff_ne]; omega
  have z3 : each ≠ 0 := by omega
  have z4 : (each == 0) = false := by rw [beq_eq_false_iff_ne]; omega
  have w1 : IntKind.i64.wrap each = each := wrapI64 (by omega) (by omega)
  have w2 : IntKind.i64.wrap q = q := wrapI64 (by omega) (by omega)
  have w3 : IntKind.i64.wrap (al - 1) = al - 1 := wrapI64 (by omega) (by omega)
  clear hE hq a hb
  obtain ⟨bs, n, co, sz⟩ := s
  simp only at *
  go_enter Try.func73, Try.ntmps73
  go_wp2
  go_quiet (fail)
  by_cases h : al ≤ q
  · have hm : min q (al - 1) = al - 1 := by omega
    rw [hm] at HA
    go_wp2
    go_ret
    rw [HA.out]
    exact ⟨rfl, nq, rfl⟩
  · have hm : min q (al - 1) = q := by omega
    rw [hm] at HA
    go_wp2
    go_ret
    rw [HA.out]
    exact ⟨rfl, nq, rfl⟩
set_option maxHeartbeats 4000000 in
set_option maxRecDepth 100000 in
theorem rtake_calls {w : World} {d : Nat} {s : DSt} {v : Value} (a : Is w d 69 .i64 s v) (ok : s.Ready) (lo ow al : Int) (may : Enc.May lo ow al) (le : s.sz / al * lo ≤ s.co) (hn : s.n ≤ 900000000000) :
    Calls Try.prog 74 #[.pointer (some ⟨d, 0, none⟩), .int .i64 lo, .int .i64 ow, .int .i64 al] w fun e w' => e = .returned (.tuple #[]) ∧ Is w' d 69 .i64 (takeS s lo ow al) v ∧ At d w w' := by
  obtain ⟨p0, p1, p2, p3⟩ := may
  have hd := a.blk.lt
  obtain ⟨each, hE⟩ : ∃ each, each = s.sz / al := ⟨_, rfl⟩
  obtain ⟨q, hq⟩ : ∃ q, q = each * lo := ⟨_, rfl⟩
  obtain ⟨r, hr⟩ : ∃ r, r = each * ow := ⟨_, rfl⟩
  have b1 := Enc.mul_bd each lo al s.sz hE (by omega) p0 (by omega) (by have := ok.s0; omega)
  have b2 := Enc.mul_bd each ow al s.sz hE (by omega) (by omega) (by omega) (by have := ok.s0; omega)
  have b3 := Enc.each_lo al s.sz (by omega) p3 ok.s0
  have b4 : each * 1 ≤ each * ow := Int.mul_le_mul_of_nonneg_left p1 (by omega)
  have b5 : each ≤ s.sz := by rw [hE]; exact Int.ediv_le_self _ (by have := ok.s0; omega)
  have HT : Hid (takeS s lo ow al = dnorm 2 ⟨s.bs, s.n, min (s.co - q) (r - 1), r⟩) := Lib.hid (by unfold takeS; rw [hq, hr, hE])
  have e1 : Int.tdiv s.sz al = each := by rw [hE, Int.tdiv_eq_ediv_of_nonneg (by have := ok.s0; omega)]
  rw [← hE, ← hq] at le
  rw [← hE] at b3
  rw [← hq] at b1
  rw [← hr] at b2 b4
  rw [Int.mul_one] at b4
  have e2 : each * lo = q := hq.symm
  have e3 : each * ow = r := hr.symm
  have BY := Lib.hid ok.by_
  have A := Lib.hid a
  obtain ⟨_, c0, c1, s0, s1⟩ := ok
  obtain ⟨bs, n, co, sz⟩ := s
  simp only at *
  have d3 := a.blk.cell (i := 3) rfl
  have d2 := a.blk.cell (i := 2) rfl
  have f2 := a.blk.free 2
  have f3 := a.blk.free 3
  have z1 : al ≠ 0 := by omega
  have z2 : (al == 0) = false := by rw [beq_eq_false_iff_ne]; omega
  have w1 : IntKind.i64.wrap each = each := wrapI64 (by omega) (by omega)
  have w2 : IntKind.i64.wrap q = q := wrapI64 (by omega) (by omega)
  have w3 : IntKind.i64.wrap r = r := wrapI64 (by omega) (by omega)
  have w4 : IntKind.i64.wrap (co - q) = co - q := wrapI64 (by omega) (by omega)
  have w5 : IntKind.i64.wrap (r - 1) = r - 1 := wrapI64 (by omega) (by omega)
  obtain ⟨x, hx⟩ : ∃ x, x = min (co - q) (r - 1) := ⟨_, rfl⟩
  rw [← hx] at HT
  have x0 : 0 ≤ x := by omega
  have x1 : x ≤ r - 1 := by omega
  clear hE hq hr a
  go_enter Try.func74, Try.ntmps74
  go_wp2
  have A3 := Lib.hid ((A.out.co_ (co - q)).sz_ r)
  have O3 := Lib.hid (At.cell (At.cell (At.refl d w) 2 (.int .i64 (co - q))) 3 (.int .i64 r))
  clear d2 d3 f2 f3 A
  generalize ((w.setCell ⟨d, 2, none⟩ (.int .i64 (co - q))).setCell ⟨d, 3, none⟩ (.int .i64 r)) = w3 at *
  have d2 := A3.out.blk.cell (i := 2) rfl
  have d3 := A3.out.blk.cell (i := 3) rfl
  have f2 := A3.out.blk.free 2
  have f3 := A3.out.blk.free 3
  go_quiet (fail)
  by_cases hc : r ≤ co - q
  · obtain rfl : x = r - 1 := by omega
    clear hx
    have d2 : (w3.drewN nq).cell? ⟨d, 2, none⟩ = _ := d2
    have d3 : (w3.drewN nq).cell? ⟨d, 3, none⟩ = _ := d3
    have f2 : (w3.drewN nq).frozen? ⟨d, 2, none⟩ = _ := f2
    go_wp2_with fail
    have A4 := Lib.hid ((A3.out.drewN nq).co_ (r - 1))
    have O4 := Lib.hid (At.cell (O3.out.drewN nq) 2 (.int .i64 (r - 1)))
    clear d2 d3 f2 f3 A3 O3 w1 w4 w5 e1 e2 e3
    generalize ((w3.drewN nq).setCell ⟨d, 2, none⟩ (.int .i64 (r - 1))) = w4 at *
    go_loopg [] 2 (fun j wr => ∃ t : DSt, j ≤ 2 ∧ Enc.lw j ≤ t.sz ∧ t.sz < 4294967296 ∧ 0 ≤ t.co ∧ t.co < t.sz ∧ Hid (Byt t.bs) ∧ t.n + j ≤ 900000000002 ∧ Hid (dnorm j t = takeS ⟨bs, n, co, sz⟩ lo ow al) ∧ Hid (Is wr d 69 .i64 t v) ∧ Hid (At d w wr))
    case atStart => exact ⟨⟨bs, n, r - 1, r⟩, Nat.le_refl _, by show (256 : Int) ≤ r; omega, by simp only; omega, x0, by simp only; omega, BY, by simp only; omega, HT.out.symm, A4, O4⟩
    case round =>
      clear A4 O4 HT BY
      obtain ⟨t, hj2, hlw, ts1, t0, t1, BY, hnn, HN, A3, O3⟩ := hrel
      have d3 := A3.out.blk.cell (i := 3) rfl
      have f3 := A3.out.blk.free 3
      by_cases hc : t.sz < 16777216
      · have hg : 0 < gk := by
          rcases Nat.eq_zero_or_pos gk with h | h
          · subst h; have : (16777216 : Int) ≤ t.sz := hlw; omega
          · exact h
        obtain ⟨j, rfl⟩ : ∃ j, gk = j + 1 := ⟨gk - 1, by omega⟩
        have HSt : Hid (dnorm (j + 1) t = dnorm j (nextS ⟨t.bs, t.n, t.co, t.sz * 256⟩)) := Lib.hid (by show (if t.sz < 16777216 then dnorm j (nextS ⟨t.bs, t.n, t.co, t.sz * 256⟩) else t) = _; rw [if_pos hc])
        have hlw2 : Enc.lw j ≤ t.sz * 256 := by
          rcases (show j = 0 ∨ j = 1 by omega) with h | h
          · subst h; have : (65536 : Int) ≤ t.sz := hlw; show (16777216 : Int) ≤ _; omega
          · subst h; have : (256 : Int) ≤ t.sz := hlw; show (65536 : Int) ≤ _; omega
        have NX := Lib.hid (rnext_calls (A3.out.sz_ (t.sz * 256)) BY.out t0 (by simp only; omega) (by simp only; omega))
        have O4 := Lib.hid (At.cell O3.out 3 (.int .i64 (t.sz * 256)))
        have w1 : IntKind.i64.wrap (t.sz * 256) = t.sz * 256 := wrapI64 (by omega) (by omega)
        have hbt := bt_bd (s := ⟨t.bs, t.n, t.co, t.sz * 256⟩) BY.out
        clear hlw
        obtain ⟨tsz, htz⟩ : ∃ tsz, t.sz = tsz := ⟨_, rfl⟩
        rw [htz] at d3 ts1 t1 hc hlw2 O4 NX HSt w1 hbt
        clear htz
        go_wp2_with (go_at_call 68; refine NX.out.mono ?_; rintro e w4 ⟨rfl, a4, o4⟩; have A4 := Lib.hid a4; have O5 := Lib.hid (O4.out.trans o4); clear a4 o4)
        go_roundg j
        case measure => omega
        case rel => exact ⟨nextS ⟨t.bs, t.n, t.co, tsz * 256⟩, by omega, hlw2, by show tsz * 256 < _; omega, by show 0 ≤ t.co * 256 + _; omega, by show t.co * 256 + _ < tsz * 256; omega, BY, by show t.n + 1 + j ≤ _; omega, HSt.out.symm.trans HN.out, A4, O5⟩
      · have HF : Hid (takeS ⟨bs, n, co, sz⟩ lo ow al = t) := Lib.hid (HN.out.symm.trans (by
          cases gk with
          | zero => rfl
          | succ j => show (if t.sz < 16777216 then dnorm j _ else t) = _; rw [if_neg hc]))
        clear HN
        go_wp2
        rw [HF.out]
        exact bodyPost_end (results_none rfl _ _ _) rfl ⟨rfl, A3.out, O3.out⟩
  · obtain rfl : x = co - q := by omega
    clear hx
    go_wp2_with fail
    have A4 := Lib.hid (A3.out.drewN nq)
    have O4 := Lib.hid (O3.out.drewN nq)
    clear d2 d3 f2 f3 A3 O3 w1 w4 w5 e1 e2 e3
    generalize (w3.drewN nq) = w4 at *
    go_loopg [] 2 (fun j wr => ∃ t : DSt, j ≤ 2 ∧ Enc.lw j ≤ t.sz ∧ t.sz < 4294967296 ∧ 0 ≤ t.co ∧ t.co < t.sz ∧ Hid (Byt t.bs) ∧ t.n + j ≤ 900000000002 ∧ Hid (dnorm j t = takeS ⟨bs, n, co, sz⟩ lo ow al) ∧ Hid (Is wr d 69 .i64 t v) ∧ Hid (At d w wr))
    case atStart => exact ⟨⟨bs, n, co - q, r⟩, Nat.le_refl _, by show (256 : Int) ≤ r; omega, by simp only; omega, x0, by simp only; omega, BY, by simp only; omega, HT.out.symm, A4, O4⟩
    case round =>
      clear A4 O4 HT BY
      obtain ⟨t, hj2, hlw, ts1, t0, t1, BY, hnn, HN, A3, O3⟩ := hrel
      have d3 := A3.out.blk.cell (i := 3) rfl
      have f3 := A3.out.blk.free 3
      by_cases hc : t.sz < 16777216
      · have hg : 0 < gk := by
          rcases Nat.eq_zero_or_pos gk with h | h
          · subst h; have : (16777216 : Int) ≤ t.sz := hlw; omega
          · exact h
        obtain ⟨j, rfl⟩ : ∃ j, gk = j + 1 := ⟨gk - 1, by omega⟩
        have HSt : Hid (dnorm (j + 1) t = dnorm j (nextS ⟨t.bs, t.n, t.co, t.sz * 256⟩)) := Lib.hid (by show (if t.sz < 16777216 then dnorm j (nextS ⟨t.bs, t.n, t.co, t.sz * 256⟩) else t) = _; rw [if_pos hc])
        have hlw2 : Enc.lw j ≤ t.sz * 256 := by
          rcases (show j = 0 ∨ j = 1 by omega) with h | h
          · subst h; have : (65536 : Int) ≤ t.sz := hlw; show (16777216 : Int) ≤ _; omega
          · subst h; have : (256 : Int) ≤ t.sz := hlw; show (65536 : Int) ≤ _; omega
        have NX := Lib.hid (rnext_calls (A3.out.sz_ (t.sz * 256)) BY.out t0 (by simp only; omega) (by simp only; omega))
        have O4 := Lib.hid (At.cell O3.out 3 (.int .i64 (t.sz * 256)))
        have w1 : IntKind.i64.wrap (t.sz * 256) = t.sz * 256 := wrapI64 (by omega) (by omega)
        have hbt := bt_bd (s := ⟨t.bs, t.n, t.co, t.sz * 256⟩) BY.out
        clear hlw
        obtain ⟨tsz, htz⟩ : ∃ tsz, t.sz = tsz := ⟨_, rfl⟩
        rw [htz] at d3 ts1 t1 hc hlw2 O4 NX HSt w1 hbt
        clear htz
        go_wp2_with (go_at_call 68; refine NX.out.mono ?_; rintro e w4 ⟨rfl, a4, o4⟩; have A4 := Lib.hid a4; have O5 := Lib.hid (O4.out.trans o4); clear a4 o4)
        go_roundg j
        case measure => omega
        case rel => exact ⟨nextS ⟨t.bs, t.n, t.co, tsz * 256⟩, by omega, hlw2, by show tsz * 256 < _; omega, by show 0 ≤ t.co * 256 + _; omega, by show t.co * 256 + _ < tsz * 256; omega, BY, by show t.n + 1 + j ≤ _; omega, HSt.out.symm.trans HN.out, A4, O5⟩
      · have HF : Hid (takeS ⟨bs, n, co, sz⟩ lo ow al = t) := Lib.hid (HN.out.symm.trans (by
          cases gk with
          | zero => rfl
          | succ j => show (if t.sz < 16777216 then dnorm j _ else t) = _; rw [if_neg hc]))
        clear HN
        go_wp2
        rw [HF.out]
        exact bodyPost_end (results_none rfl _ _ _) rfl ⟨rfl, A3.out, O3.out⟩
set_option maxHeartbeats 2000000 in
set_option maxRecDepth 100000 in
theorem Open_calls {w : World} {u : Value} {bs : List Int} (src : Src w .u8 u bs) (hb : Byt bs) :
    Calls Try.prog 34 #[u] w fun e w' => ∃ d v, e = .returned (.pointer (some ⟨d, 0, none⟩)) ∧ w.heap.size ≤ d ∧ (∀ g, v.ownBlock = some g → w.heap.size ≤ g) ∧ Is w' d 69 .i64 (openS bs) v ∧ Below w.heap.size w w' := by
  have hl := hb.2
  have S0 := Lib.hid (Sl.empty w 5 .u8)
  have SR := Lib.hid (Src.below src ((Below.refl _ _).alloc (Nat.le_refl _) (.cells #[] 5) : Below _ _ _))
  have HB := Lib.hid hb
  clear src hb
  go_enter Try.func34, Try.ntmps34
  go_wp2_with (at_builtin; refine wpList_add (.tmp 5) (.tmp 6) 35 5 .u8 0 1 rfl rfl Try.underlying35 Enc.info_u8 _ _ [] bs rfl rfl S0.out SR.out (by simp; omega) (by simp; omega) ?_
               intro v1 w1 hp
               have S1 := Lib.hid hp.sl
               have O1 := Lib.hid (Added.fresh hp).2
               have hs1 := (Added.fresh hp).1.size
               have B1 := Lib.hid (Added.fresh hp).1
               clear hp
               obtain ⟨ad, cap, rfl, _⟩ := S1.out.form
               rw [List.nil_append] at S1 O1)
  have HI : Hid (Is (w1.alloc (.cells #[.slice ad bs.length cap, .int .i64 0, .int .i64 0, .int .i64 4294967295] 69)) w1.heap.size 69 .i64 ⟨bs, 0, 0, 4294967295⟩ (.slice ad bs.length cap)) :=
    Lib.hid ⟨Blk.new w1 _ _, S1.out.alloc _, fun e => by have := S1.out.lt e; omega⟩
  have B2 : Hid (Below w.heap.size w (w1.alloc (.cells #[.slice ad bs.length cap, .int .i64 0, .int .i64 0, .int .i64 4294967295] 69))) := Lib.hid (B1.out.alloc hs1 _)
  clear B1
  go_loopw [4] (fun i wr => ∃ (k : Nat) (t : DSt), k ≤ 4 ∧ i = .int .i64 (k : Int) ∧ Hid (nexts (4 - k) t = openS bs) ∧ Hid (Byt t.bs) ∧ 0 ≤ t.co ∧ Hid (t.co < 256 ^ k) ∧ t.n = k ∧ Hid (Is wr w1.heap.size 69 .i64 t (.slice ad bs.length cap)) ∧ Hid (Below w.heap.size w wr)) (fun i _ => 4 - (intOf i).toNat)
  case atStart => exact ⟨0, ⟨bs, 0, 0, 4294967295⟩, by omega, rfl, rfl, HB, by simp only; omega, Lib.hid (by show (0 : Int) < 256 ^ 0; decide), rfl, HI, B2⟩
  case round =>
    clear HI B2 HB
    obtain ⟨k, t, hk, rfl, HN, HB, t0, HL, hn, HI, B2⟩ := hrel
    by_cases hlt : k < 4
    · have hp := pow_lt4 hlt
      have hL := HL.out
      have NX := Lib.hid (rnext_calls HI.out HB.out t0 (by omega) (by omega))
      clear hp hL
      go_wp2_with (go_at_call 68; refine NX.out.mono ?_; rintro e w4 ⟨rfl, a4, o4⟩; have A4 := Lib.hid a4; have O5 := Lib.hid o4; clear a4 o4)
      go_roundw
      case rel =>
        have hbt := bt_bd HB.out
        refine ⟨k + 1, nextS t, by omega, by push_cast; rfl, ?_, HB, by show 0 ≤ t.co * 256 + _; omega, ?_, by show t.n + 1 = k + 1; omega, A4, B2.out.trans (O5.out.below (by have := B2.out.size; omega) (fun i hi => by omega))⟩
        · have e : 4 - k = (4 - (k + 1)) + 1 := by omega
          have := HN.out
          rw [e] at this
          exact this
        · have hL := HL.out
          show t.co * 256 + _ < (256 : Int) ^ (k + 1)
          rw [Int.pow_succ]; omega
      case measure => simp [intOf]; omega
    · obtain rfl : k = 4 := by omega
      have hN : t = openS bs := HN.out
      subst hN
      go_wp2
      go_ret
      exact ⟨w1.heap.size, _, rfl, hs1, O1.out, HI.out, B2.out⟩
attribute [local irreducible] takeS atS
set_option maxHeartbeats 2000000 in
set_option maxRecDepth 100000 in
theorem RSymbol_yes {w : World} {d m h cap : Nat} {s : DSt} {v : Value} {L : List Int} {f : Bool} (a : Is w d 69 .i64 s v) (ok : s.Ready) (hn : s.n ≤ 900000000000) (b : Mdl.IsR w m h cap L f) (good : Mdl.Good L)
    (n1 : d ≠ m) (n2 : d ≠ h) (n3 : v.ownBlock ≠ some m) (n4 : v.ownBlock ≠ some h) :
    Calls Try.prog 36 #[.pointer (some ⟨d, 0, none⟩), .pointer (some ⟨m, 0, none⟩)] w fun e w' => e = .returned (.int .i64 (symK s L)) ∧
      Is w' d 69 .i64 (symS s L) v ∧ Mdl.IsR w' m h cap (Mdl.next f L (symK s L)) f ∧ Only (fun i => i = d ∨ (i = m ∨ i = h)) w w' := by
  have A := Lib.hid a
  have B := Lib.hid b
  have G := Lib.hid good
  have OK := Lib.hid ok
  have N3 := Lib.hid n3
  have N4 := Lib.hid n4
  have lm := b.blk.lt
  have lh := b.row.lt
  have ld := a.blk.lt
  have hl64 := good.len2
  have hall := good.all
  have d0 := b.blk.cell (i := 0) rfl
  have hk0 := sym_lt (s := s) good
  have HK := Lib.hid (sym_lt (s := s) good)
  have MY := Lib.hid (Enc.may_of good _ (sym_lt (s := s) good))
  have LE := Lib.hid (sym_le ok good)
  have HS : Hid (symS s L = takeS s (Mdl.lsum (L.take (symK s L))) (L.getD (symK s L) 0) (Mdl.lsum L)) := Lib.hid rfl
  have HF : Hid (Mdl.find L (atS s (Mdl.lsum L)) = symK s L) := Lib.hid rfl
  have AB := Lib.hid (at_bd ok good.sum1 good.all)
  have C2 := Lib.hid (Mdl.RSum_calls b good.nonneg (by omega) L.length (Nat.le_refl _) hl64)
  rw [List.take_of_length_le (Nat.le_refl _)] at C2
  have al0 := Lib.hid good.sum1
  have al1 := Lib.hid good.all
  have CA := Lib.hid (rat_calls a ok (Mdl.lsum L) good.sum1 good.all)
  have dk := b.row.cell hk0
  have hg : L.getD (symK s L) 0 = L[symK s L] := Dig.getD_get L _ hk0
  rw [hg] at MY HS
  generalize L[symK s L]'hk0 = ow at *
  have FD := Lib.hid (fun n => Mdl.RFind_calls (b.drewN n) good (atS s (Mdl.lsum L)) AB.out.1 (by have := AB.out.2; omega))
  rw [HF.out] at FD
  obtain ⟨al, hal⟩ : ∃ al, Mdl.lsum L = al := ⟨_, rfl⟩
  rw [hal] at MY LE HS HF AB al0 al1 C2 hall CA FD
  clear hal
  obtain ⟨k, hk⟩ : ∃ k, symK s L = k := ⟨_, rfl⟩
  rw [hk] at HK MY LE HS HF hk0 dk FD ⊢
  clear hk hg
  obtain ⟨lo, hlo⟩ : ∃ x, Mdl.lsum (L.take k) = x := ⟨_, rfl⟩
  rw [hlo] at MY HS LE
  have HLo := Lib.hid hlo
  clear hlo a b good ok n3 n4
  obtain ⟨n, hn2⟩ : ∃ n, L.length = n := ⟨_, rfl⟩
  have HN := Lib.hid hn2
  rw [hn2] at d0 C2 HK hk0
  clear hn2
  have ik : (k : Int) < (n : Int) := by omega
  obtain ⟨x, hx⟩ : ∃ x, atS s al = x := ⟨_, rfl⟩
  rw [hx] at CA FD
  clear hx
  go_enter Try.func36, Try.ntmps36
  go_wp2_with fail
  refine C2.out.mono ?_
  rintro e1 w1 ⟨rfl, he⟩
  subst w1
  go_wp2_with fail
  refine CA.out.mono ?_
  rintro e2 w2 ⟨rfl, nd, rfl⟩
  go_wp2_with fail
  refine (FD.out nd).mono ?_
  rintro e3 w3 ⟨rfl, rfl⟩
  have A2 := Lib.hid (A.out.drewN nd)
  have B2 := Lib.hid (B.out.drewN nd)
  have O2 : Hid (Only (fun i => i = d ∨ (i = m ∨ i = h)) w (w.drewN nd)) := Lib.hid ((Only.refl _ w).drewN nd)
  have d0 : (w.drewN nd).cell? ⟨m, 0, none⟩ = _ := d0
  have dk : (w.drewN nd).cell? ⟨h, k, none⟩ = _ := dk
  clear C2 CA FD A B
  generalize w.drewN nd = w2 at *
  have C1 : Hid (∀ n, Calls Try.prog 63 #[.pointer (some ⟨m, 0, none⟩), .int .i64 k] (w2.drewN n) fun e w' => e = .returned (.int .i64 lo) ∧ w' = w2.drewN n) :=
    Lib.hid (fun n => by have := Mdl.RSum_calls (B2.out.drewN n) G.out.nonneg (by have := G.out.all; omega) k (by rw [HN.out]; omega) hl64; rwa [HLo.out] at this)
  go_wp2_with fail
  refine region_quiet_tail 12 (by kernel_rfl) (by kernel_rfl) ?_
  simp only [List.take_succ_cons, List.take_zero, List.drop_succ_cons, List.drop_zero]
  repeat (quiet_step ((go_at_call 63; first | (with_reducible exact Calls.quiet_of_same (C1.out _)))))
  refine wpQuiet_nil ?_
  rintro _ ⟨nq, rfl⟩
  have CT := Lib.hid (rtake_calls (A2.out.drewN nq) OK.out lo ow al MY.out LE.out hn)
  go_wp2_with fail
  refine CT.out.mono ?_
  rintro e4 w4 ⟨rfl, a4, o4⟩
  have A4 := Lib.hid a4
  have B4 : Hid (Mdl.IsR w4 m h cap L f) := Lib.hid ((B2.out.drewN nq).only o4 (fun hh => n1 hh.symm) (fun hh => n2 hh.symm))
  have O4 : Hid (Only (fun i => i = d ∨ (i = m ∨ i = h)) w w4) := Lib.hid ((O2.out.drewN nq).then o4 (fun i hi => .inl (.inl hi)))
  clear a4 o4 CT A2 B2 O2 C1 d0 dk
  have HK2 : Hid (k < L.length) := Lib.hid (by rw [HN.out]; exact hk0)
  go_wp2_with fail
  refine (Mdl.RLearn_any B4.out G.out k HK2.out).mono ?_
  rintro e5 w5 ⟨rfl, b5, o5⟩
  have A5 := Lib.hid (A4.out.only o5 (fun hh => by rcases hh with hh | hh; exact n1 hh; exact n2 hh) (fun g hg hh => by
    rcases hh with hh | hh
    · subst hh; exact N3.out hg
    · subst hh; exact N4.out hg))
  have B5 := Lib.hid b5
  have O5 : Hid (Only (fun i => i = d ∨ (i = m ∨ i = h)) w w5) := Lib.hid (O4.out.then o5 (fun i hi => .inl (.inr hi)))
  clear b5 o5
  go_wp2_with fail
  go_ret
  rw [HS.out]
  exact ⟨rfl, A5.out, B5.out, O5.out⟩
attribute [local irreducible] bitsD
set_option maxHeartbeats 2000000 in
set_option maxRecDepth 100000 in
theorem RBits_yes {w : World} {d : Nat} {s : DSt} {v : Value} (a : Is w d 69 .i64 s v) (ok : s.Ready) (hn : s.n ≤ 800000000000) (wide : Nat) (h2 : wide ≤ 24) :
    Calls Try.prog 38 #[.pointer (some ⟨d, 0, none⟩), .int .i64 wide] w fun en w' => en = .returned (.int .i64 (bitsD s 0 wide).1) ∧ Is w' d 69 .i64 (bitsD s 0 wide).2 v ∧ At d w w' := by
  have A := Lib.hid a
  have R0 := Lib.hid ok
  clear a ok
  go_enter Try.func38, Try.ntmps38
  go_wp2
  go_loopw [1, 5] (fun u nv wr => ∃ (j : Nat) (t : DSt) (n : Int), j ≤ 24 ∧ u = .int .i64 (j : Int) ∧ nv = .int .i64 n ∧ 0 ≤ n ∧ Hid ((n + 1) * 2 ^ j ≤ 16777216) ∧ Hid (bitsD t n j = bitsD s 0 wide) ∧ Hid t.Ready ∧ t.n + 4 * j ≤ 900000000000 ∧ Hid (Is wr d 69 .i64 t v) ∧ Hid (At d w wr)) (fun u _ _ => (intOf u).toNat)
  case atStart => exact ⟨wide, s, 0, h2, rfl, rfl, Int.le_refl _, Lib.hid (by have := pow24 h2; omega), rfl, R0, by omega, A, At.refl d w⟩
  case round =>
    clear A R0
    obtain ⟨j, t, n, hj, rfl, rfl, n0, HL, HN, R0, hkk, A, O⟩ := hrel
    have hd := A.out.blk.lt
    by_cases hz : 0 < j
    · obtain ⟨k, i, hk0, hk12, hji, hkm, hst⟩ := bits_more (n := n) R0.out hz hj
      have hp := pow12 hk12
      have HP := Lib.hid hp
      have hp8 : (2 : Int) ^ k ≤ 8192 := by omega
      have AR := Lib.hid (at_ready R0.out hp.1 hp8)
      have AM := Lib.hid (at_may R0.out hp.1 hp8)
      have AL := Lib.hid (at_le R0.out hp.1 hp8 (Int.le_refl _))
      have HSt := Lib.hid hst
      have ab := at_bd R0.out hp.1 hp8
      have hL : (n * 2 ^ k + atS t (2 ^ k) + 1) * 2 ^ i ≤ 16777216 ∧ n * 2 ^ k + atS t (2 ^ k) + 1 ≤ 16777216 := by
        have h1 := HL.out
        rw [hji, Nat.add_comm, Int.pow_add, ← Int.mul_assoc] at h1
        have hpi : (0 : Int) < 2 ^ i := Int.pow_pos (by omega)
        have h2 : (n + 1) * 2 ^ k = n * 2 ^ k + 2 ^ k := by rw [Int.add_mul, Int.one_mul]
        rw [h2] at h1
        have h3 : (n * 2 ^ k + atS t (2 ^ k) + 1) * 2 ^ i ≤ (n * 2 ^ k + 2 ^ k) * 2 ^ i := Int.mul_le_mul_of_nonneg_right (by omega) (by omega)
        have h4 : (n * 2 ^ k + atS t (2 ^ k) + 1) * 1 ≤ (n * 2 ^ k + atS t (2 ^ k) + 1) * 2 ^ i := Int.mul_le_mul_of_nonneg_left (by omega) (by have := Int.mul_nonneg n0 (show (0 : Int) ≤ 2 ^ k by omega); omega)
        omega
      have n1 : 0 ≤ n * 2 ^ k := Int.mul_nonneg n0 (by omega)
      have n2 : n * 2 ^ k < 16777216 := by omega
      have HLL := Lib.hid hL
      have HI : Hid (i < j ∧ i ≤ 24 ∧ t.n + 2 + 4 * i ≤ 900000000000) := Lib.hid (by omega)
      have hji2 : (j : Int) - (k : Int) = (i : Int) := by omega
      have PW := Lib.hid (fun wz : World => Enc.power_calls k (by omega) wz)
      have w1 : IntKind.i64.wrap (i : Int) = (i : Int) := wrapI64 (by omega) (by omega)
      clear hst hL HL
      obtain ⟨pk, hpk⟩ : ∃ pk : Int, (2 : Int) ^ k = pk := ⟨_, rfl⟩
      rw [hpk] at HP AR AM AL HSt ab n1 n2 HLL hp hp8 PW
      clear hpk
      obtain ⟨x, hx⟩ : ∃ x, atS t pk = x := ⟨_, rfl⟩
      have CA := Lib.hid (rat_calls A.out R0.out pk HP.out.1 (by have := HP.out.2; omega))
      rw [hx] at ab AR AM AL HSt HLL CA
      clear hx
      obtain ⟨y, hy⟩ : ∃ y, n * pk = y := ⟨_, rfl⟩
      rw [hy] at n1 n2 HSt HLL
      by_cases hc : 12 < j
      · obtain rfl : k = 12 := by omega
        have hc' : (12 : Int) < (j : Int) := by omega
        have hji2 : (j : Int) - 12 = (i : Int) := hji2
        clear hkm hji
        go_wp2_with fail
        refine (PW.out _).mono ?_
        rintro e1 w1 ⟨rfl, rfl⟩
        go_wp2_with fail
        refine CA.out.mono ?_
        rintro e2 w2 ⟨rfl, nq, rfl⟩
        have A1 := Lib.hid (A.out.drewN nq)
        have O1 := Lib.hid (O.out.drewN nq)
        have CT := Lib.hid (rtake_calls A1.out R0.out x 1 pk AM.out AL.out (by omega))
        clear A O CA
        go_wp2_with fail
        refine (PW.out _).mono ?_
        rintro e3 w3 ⟨rfl, rfl⟩
        go_wp2_with fail
        refine CT.out.mono ?_
        rintro e4 w4 ⟨rfl, a2, o2⟩
        have A2 := Lib.hid a2
        have O2 := Lib.hid (O1.out.trans o2)
        clear a2 o2 A1 O1 CT
        go_wp2_with fail
        refine (PW.out _).mono ?_
        rintro e5 w5 ⟨rfl, rfl⟩
        go_wp2_with fail
        go_roundw
        case rel => exact ⟨i, takeS t x 1 pk, y + x, HI.out.2.1, rfl, rfl, by omega, HLL.out.1, HSt.out.symm.trans HN.out, AR.out.1, by have := AR.out.2.2.2; have := HI.out.2.2; omega, A2, O2⟩
        case measure => simp [intOf]; exact HI.out.1
      · obtain rfl : k = j := by omega
        have hc' : ¬ (12 : Int) < (k : Int) := by omega
        clear hkm hji
        go_wp2_with fail
        refine (PW.out _).mono ?_
        rintro e1 w1 ⟨rfl, rfl⟩
        go_wp2_with fail
        refine CA.out.mono ?_
        rintro e2 w2 ⟨rfl, nq, rfl⟩
        have A1 := Lib.hid (A.out.drewN nq)
        have O1 := Lib.hid (O.out.drewN nq)
        have CT := Lib.hid (rtake_calls A1.out R0.out x 1 pk AM.out AL.out (by omega))
        clear A O CA
        go_wp2_with fail
        refine (PW.out _).mono ?_
        rintro e3 w3 ⟨rfl, rfl⟩
        go_wp2_with fail
        refine CT.out.mono ?_
        rintro e4 w4 ⟨rfl, a2, o2⟩
        have A2 := Lib.hid a2
        have O2 := Lib.hid (O1.out.trans o2)
        clear a2 o2 A1 O1 CT
        go_wp2_with fail
        refine (PW.out _).mono ?_
        rintro e5 w5 ⟨rfl, rfl⟩
        go_wp2_with fail
        go_roundw
        case rel => exact ⟨i, takeS t x 1 pk, y + x, HI.out.2.1, rfl, rfl, by omega, HLL.out.1, HSt.out.symm.trans HN.out, AR.out.1, by have := AR.out.2.2.2; have := HI.out.2.2; omega, A2, O2⟩
        case measure => simp [intOf]; exact HI.out.1
    · obtain rfl : j = 0 := by omega
      rw [bits_nought] at HN
      have HF := Lib.hid HN.out.symm
      clear HN
      go_wp2
      go_ret
      rw [HF.out]
      exact ⟨rfl, A.out, O.out⟩
end Go.Proofs.Ytlbjoflmfboeeaa.Deco
