/-
  The program's encoder and the document's hold one number: their bytes are the same. Plain theorems; no condition but those told.
-/
import Derived.Test.YtlbjoflmfboeeaaReb
set_option linter.unusedVariables false
namespace Go.Proofs.Ytlbjoflmfboeeaa.Enc
open Go.RowKit Go.Proofs.Ytlbjoflmfboeeaa Go.Proofs.Ytlbjoflmfboeeaa.Dig

/-- The bytes that may still rise. -/
def pend (s : St) : List Int := (if s.be = true then [s.fi] else []) ++ List.replicate (s.he - 1) 255
def pre (s : St) : List Int := s.out ++ pend s
theorem pend_len (s : St) : (pend s).length = s.he - 1 + (if s.be = true then 1 else 0) := by
  unfold pend; split <;> simp
  try omega
theorem vl_rep255 (n : Nat) : vl (List.replicate n 255) = 256 ^ n - 1 := by
  induction n with
  | zero => simp [vl]
  | succ n ih => rw [List.replicate_succ', vl_snoc, ih, Int.pow_succ]; omega
theorem vl_rep0 (n : Nat) : vl (List.replicate n 0) = 0 := by
  induction n with
  | zero => rfl
  | succ n ih => rw [List.replicate_succ', vl_snoc, ih]; rfl
theorem pend_dig (s : St) (h0 : 0 ≤ s.fi) (h1 : s.fi ≤ 255) : ∀ x ∈ pend s, 0 ≤ x ∧ x ≤ 255 := by
  intro x hx
  unfold pend at hx
  rcases List.mem_append.1 hx with hx | hx
  · split at hx
    · simp at hx; omega
    · cases hx
  · have := List.eq_of_mem_replicate hx; omega
theorem pre_len (s : St) (h : 1 ≤ s.he) : (pre s).length = s.k := by
  unfold pre St.k
  rw [List.length_append, pend_len]
  omega
structure Sane (s : St) : Prop where
  lo0 : 0 ≤ s.lo
  lo1 : s.lo < 8589934592
  he0 : 1 ≤ s.he
  fi0 : 0 ≤ s.fi
  fi1 : s.fi ≤ 255
  dig : ∀ x ∈ s.out, 0 ≤ x ∧ x ≤ 255
  /-- What is in the way of what goes over, takes it. -/
  room : vl (pend s) + over s < 256 ^ (pend s).length
theorem flush_vl (s : St) (h : Sane s) : vl (flush s) = vl (pre s) + over s := by
  have ho : over s = 0 ∨ over s = 1 := by have := h.lo0; have := h.lo1; unfold over; omega
  have hr := h.room
  rcases ho with ho | ho
  · unfold flush pre pend
    rw [ho]
    have e1 : (s.fi + 0) % 256 = s.fi := by have := h.fi0; have := h.fi1; omega
    rw [e1, show ((255 : Int) + 0) % 256 = 255 from by decide]
    split <;> simp
  · by_cases hb : s.be = true
    · unfold flush pre
      unfold pend at hr ⊢
      rw [ho] at hr ⊢
      rw [if_pos hb] at hr ⊢
      rw [if_pos hb]
      rw [vl_append, vl_one, vl_rep255, List.length_replicate, List.length_append, List.length_replicate, List.length_singleton, Nat.add_comm 1, Int.pow_succ] at hr
      have hp := pow_pos256 (s.he - 1)
      have hfi : s.fi + 1 ≤ 255 := by
        generalize (256 : Int) ^ (s.he - 1) = p at *
        by_cases hf : s.fi + 1 ≤ 255
        · exact hf
        · have : 255 * p ≤ s.fi * p := Int.mul_le_mul_of_nonneg_right (by omega) (by omega)
          omega
      rw [show (s.fi + 1) % 256 = s.fi + 1 from by have := h.fi0; omega, show ((255 : Int) + 1) % 256 = 0 from by decide, List.append_assoc, vl_append, vl_append, vl_append, vl_append, vl_one, vl_one, vl_rep0, vl_rep255]
      simp only [List.length_append, List.length_singleton, List.length_replicate]
      rw [Int.add_mul]
      omega
    · unfold pend at hr
      rw [if_neg hb, List.nil_append, vl_rep255, List.length_replicate, ho] at hr
      omega
theorem flush_dig (s : St) (h : Sane s) : ∀ x ∈ flush s, 0 ≤ x ∧ x ≤ 255 := by
  intro x hx
  unfold flush at hx
  rcases List.mem_append.1 hx with hx | hx
  · split at hx
    · rcases List.mem_append.1 hx with hx | hx
      · exact h.dig x hx
      · simp at hx; omega
    · exact h.dig x hx
  · have := List.eq_of_mem_replicate hx; omega
/-- The number that an encoder holds. -/
def Val (s : St) : Int := vl (pre s) * 4294967296 + s.lo
theorem pre_loud (s : St) (hc : s.lo < 4278190080 ∨ 4294967296 ≤ s.lo) : pre (shiftS s) = flush s ++ [s.lo / 16777216 % 256] := by
  unfold shiftS; rw [if_pos hc]
  unfold pre pend
  simp
theorem pend_loud (s : St) (hc : s.lo < 4278190080 ∨ 4294967296 ≤ s.lo) : pend (shiftS s) = [s.lo / 16777216 % 256] := by
  unfold shiftS; rw [if_pos hc]
  unfold pend
  simp
theorem pend_calm (s : St) (h : 1 ≤ s.he) (hc : ¬ (s.lo < 4278190080 ∨ 4294967296 ≤ s.lo)) : pend (shiftS s) = pend s ++ [255] := by
  unfold shiftS; rw [if_neg hc]
  unfold pend
  simp only [Nat.add_sub_cancel]
  rw [List.append_assoc]
  congr 1
  have : s.he = s.he - 1 + 1 := by omega
  rw [← List.replicate_succ', ← this]
theorem pre_calm (s : St) (h : 1 ≤ s.he) (hc : ¬ (s.lo < 4278190080 ∨ 4294967296 ≤ s.lo)) : pre (shiftS s) = pre s ++ [255] := by
  unfold pre
  rw [pend_calm s h hc, ← List.append_assoc]
  congr 2
  unfold shiftS; rw [if_neg hc]
theorem shift_lo (s : St) : (shiftS s).lo = s.lo % 16777216 * 256 := by unfold shiftS; split <;> rfl
theorem shift_val (s : St) (h : Sane s) : Val (shiftS s) = Val s * 256 := by
  unfold Val
  rw [shift_lo]
  by_cases hc : s.lo < 4278190080 ∨ 4294967296 ≤ s.lo
  · rw [pre_loud s hc, vl_snoc, flush_vl s h]
    unfold over
    have := h.lo0; have := h.lo1
    omega
  · rw [pre_calm s h.he0 hc, vl_snoc]
    have := h.lo0; have := h.lo1
    omega
theorem shift_out_dig (s : St) (h : Sane s) : ∀ x ∈ (shiftS s).out, 0 ≤ x ∧ x ≤ 255 := by
  unfold shiftS
  split
  · exact flush_dig s h
  · exact h.dig
/-- Behind a shift nothing goes over. -/
theorem shift_sane (s : St) (h : Sane s) : Sane (shiftS s) := by
  have hl := shiftS_lo s
  have hh := shiftS_he s h.he0
  have hf := shiftS_fi s h.fi0 (by have := h.fi1; omega)
  refine ⟨hl.1, by omega, hh, hf.1, by omega, shift_out_dig s h, ?_⟩
  have e : over (shiftS s) = 0 := by unfold over; omega
  rw [e, Int.add_zero]
  exact vl_lt _ (pend_dig _ hf.1 (by omega))
theorem shifts_val (n : Nat) : ∀ (s : St), Sane s → Val (shifts n s) = Val s * 256 ^ n ∧ Sane (shifts n s) ∧ (shifts n s).k = s.k + n := by
  induction n with
  | zero => intro s h; exact ⟨by simp [shifts], h, rfl⟩
  | succ n ih =>
    intro s h
    obtain ⟨h1, h2, h3⟩ := ih (shiftS s) (shift_sane s h)
    refine ⟨?_, h2, ?_⟩
    · show Val (shifts n (shiftS s)) = _
      rw [h1, shift_val s h, Int.pow_succ, Int.mul_assoc, Int.mul_comm 256]
    · show (shifts n (shiftS s)).k = _
      rw [h3, shift_k s h.he0]; omega
theorem shifts_succ (n : Nat) : ∀ (s : St), shifts (n + 1) s = shiftS (shifts n s) := by
  induction n with
  | zero => intro s; rfl
  | succ n ih => intro s; show shifts (n + 1) (shiftS s) = _; rw [ih]; rfl
theorem lo4 (s : St) (h : 0 ≤ s.lo) : (shifts 4 s).lo = 0 := by
  show (shiftS (shiftS (shiftS (shiftS s)))).lo = 0
  rw [shift_lo, shift_lo, shift_lo, shift_lo]
  omega
/-- All bytes, behind five shifts. -/
theorem out_five (s : St) (h : Sane s) : vl (shifts 5 s).out = Val s ∧ (shifts 5 s).out.length = s.k + 4 ∧ ∀ x ∈ (shifts 5 s).out, 0 ≤ x ∧ x ≤ 255 := by
  obtain ⟨h1, h2, h3⟩ := shifts_val 4 s h
  have hl := lo4 s h.lo0
  rw [shifts_succ 4 s]
  have e : (shiftS (shifts 4 s)).out = flush (shifts 4 s) := by unfold shiftS; rw [if_pos (.inl (by rw [hl]; decide))]
  rw [e]
  refine ⟨?_, by rw [flush_len _ h2.he0, h3], flush_dig _ h2⟩
  rw [flush_vl _ h2]
  unfold Val at h1
  unfold over
  rw [hl] at h1 ⊢
  rw [show (256 : Int) ^ 4 = 4294967296 from by decide] at h1
  have e2 : Val s = vl (pre s) * 4294967296 + s.lo := rfl
  rw [e2]
  omega
/-- One number. -/
structure Rel (s : St) (R : RSt) : Prop where
  k : s.k = R.K
  sz : s.sz = R.S
  val : Val s = vl R.D
  lo0 : 0 ≤ s.lo
  sum : s.lo + s.sz < 8589934592
  he0 : 1 ≤ s.he
  fi0 : 0 ≤ s.fi
  fi1 : s.fi ≤ 255
  dig : ∀ x ∈ s.out, 0 ≤ x ∧ x ≤ 255
  top : vl (pend s) * 4294967296 + s.lo + s.sz ≤ 256 ^ (pend s).length * 4294967296
theorem Rel.sane {s : St} {R : RSt} (h : Rel s R) (hs : 0 < s.sz) : Sane s := by
  refine ⟨h.lo0, by have := h.sum; omega, h.he0, h.fi0, h.fi1, h.dig, ?_⟩
  have ht := h.top
  have hv := vl_lt _ (pend_dig s h.fi0 h.fi1)
  unfold over
  have := h.lo0
  have := h.sum
  omega
theorem fresh_rel : Rel fresh rfresh := ⟨rfl, rfl, by decide, by decide, by decide, by decide, by decide, by decide, (fun x hx => by cases hx), by decide⟩
theorem step_rel {s : St} {R : RSt} (h : Rel s R) (hs : 0 < s.sz) (hc : s.sz < 16777216) : Rel (step1 s) (rstep R) := by
  have hsane := h.sane hs
  obtain ⟨s', hs'⟩ : ∃ s' : St, s' = ⟨s.lo, s.sz * 256, s.he, s.fi, s.out, s.be⟩ := ⟨_, rfl⟩
  have e1 : step1 s = shiftS s' := by rw [hs']; rfl
  have p1 : pend s' = pend s := by rw [hs']; rfl
  have p2 : pre s' = pre s := by rw [hs']; rfl
  have p3 : s'.lo = s.lo := by rw [hs']
  have p4 : over s' = over s := by rw [hs']; rfl
  have p5 : s'.sz = s.sz * 256 := by rw [hs']
  have p6 : s'.k = s.k := by rw [hs']; rfl
  have hsane' : Sane s' := by
    refine ⟨by rw [p3]; exact hsane.lo0, by rw [p3]; exact hsane.lo1, by rw [hs']; exact hsane.he0, by rw [hs']; exact hsane.fi0, by rw [hs']; exact hsane.fi1, by rw [hs']; exact hsane.dig, ?_⟩
    rw [p1, p4]; exact hsane.room
  have hv : Val s' = Val s := by unfold Val; rw [p2, p3]
  have sh := shift_sane s' hsane'
  have hl := shiftS_lo s'
  have hz := shiftS_sz s'
  rw [e1]
  refine ⟨?_, ?_, ?_, sh.lo0, by rw [hz, p5]; omega, sh.he0, sh.fi0, sh.fi1, sh.dig, ?_⟩
  · rw [shift_k s' hsane'.he0, p6, h.k]; rfl
  · rw [hz, p5, h.sz]; rfl
  · rw [shift_val s' hsane', hv, h.val]
    show _ = vl (R.D ++ [0])
    rw [vl_snoc]; omega
  · have ht := h.top
    have hlo := h.lo0
    have hsum := h.sum
    rw [hz, p5, shift_lo, p3]
    by_cases hcc : s'.lo < 4278190080 ∨ 4294967296 ≤ s'.lo
    · rw [pend_loud s' hcc, vl_one, p3]
      rw [p3] at hcc
      simp only [List.length_singleton]
      rw [show (256 : Int) ^ 1 = 256 from rfl]
      omega
    · rw [pend_calm s' hsane'.he0 hcc, vl_snoc, List.length_append, List.length_singleton, Int.pow_succ, p1]
      rw [p3] at hcc
      generalize (256 : Int) ^ (pend s).length = p at *
      omega
theorem norm_rel (n : Nat) : ∀ (s : St) (R : RSt), Rel s R → 0 < s.sz → Rel (norm n s) (rnorm n R) := by
  induction n with
  | zero => intro s R h hs; exact h
  | succ n ih =>
    intro s R h hs
    unfold norm rnorm
    rw [← h.sz]
    by_cases hc : s.sz < 16777216
    · rw [if_pos hc, if_pos hc]
      exact ih _ _ (step_rel h hs hc) (by show 0 < (shiftS _).sz; rw [shiftS_sz]; show 0 < s.sz * 256; omega)
    · rw [if_neg hc, if_neg hc]; exact h
theorem put_rel {s : St} {R : RSt} (h : Rel s R) (g : RGood R) {lo ow al : Int} (may : May lo ow al) : Rel (putS s lo ow al) (rputS R lo ow al) := by
  obtain ⟨p0, p1, p2, p3⟩ := may
  obtain ⟨each, hE⟩ : ∃ each, each = R.S / al := ⟨_, rfl⟩
  have s0 := g.s0
  have s1 := g.s1
  have b3 := each_lo al R.S (by omega) p3 s0
  have b1 := mul_bd each lo al R.S hE (by omega) p0 (by omega) (by omega)
  have b2 := mul_bd each ow al R.S hE (by omega) (by omega) (by omega) (by omega)
  have b6 := mul_bd each (lo + ow) al R.S hE (by omega) (by omega) (by omega) (by omega)
  rw [Int.mul_add] at b6
  have b4 : each * 1 ≤ each * ow := Int.mul_le_mul_of_nonneg_left p1 (by omega)
  rw [Int.mul_one] at b4
  have hv : vl (addF 4 R.D R.K (each * lo)) = vl R.D + each * lo := by
    have := addF_vl 4 (by omega) R.D R.K (each * lo) g.len b1.1 (by show each * lo < 4294967296; omega)
    simpa using this
  have hcv := carF_vl (R.K + 3) (addF 4 R.D R.K (each * lo)) R.K (by rw [addF_len, g.len]; omega)
  unfold putS rputS
  rw [h.sz]
  rw [← hE] at b3 ⊢
  have hsz := h.sz
  refine norm_rel 2 _ _ ⟨h.k, rfl, ?_, by have := h.lo0; simp only; omega, by have := h.sum; simp only; omega, h.he0, h.fi0, h.fi1, h.dig, ?_⟩ (by simp only; omega)
  · simp only
    rw [hcv, hv, ← h.val]
    show vl (pre s) * 4294967296 + (s.lo + each * lo) = vl (pre s) * 4294967296 + s.lo + each * lo
    omega
  · have ht := h.top
    show vl (pend s) * 4294967296 + (s.lo + each * lo) + each * ow ≤ 256 ^ (pend s).length * 4294967296
    omega
/-- The same bytes. -/
theorem bytes_rel {s : St} {R : RSt} (h : Rel s R) (g : RGood R) : bytesS s = strip R.D := by
  have hs : 0 < s.sz := by rw [h.sz]; have := g.s0; omega
  obtain ⟨h1, h2, h3⟩ := out_five s (h.sane hs)
  unfold bytesS
  rw [vl_inj _ R.D (by rw [h2, g.len, h.k]) h3 g.dig (by rw [h1, h.val])]
theorem Rel.ready {s : St} {R : RSt} (h : Rel s R) (g : RGood R) : s.Ready :=
  ⟨h.lo0, h.sum, by rw [h.sz]; exact g.s0, by rw [h.sz]; exact g.s1, h.he0, h.fi0, by have := h.fi1; omega⟩
end Go.Proofs.Ytlbjoflmfboeeaa.Enc
