/- Texts of this session, merged. -/
import Derived.Test.YtlbjoflmfboeeaaMqr2
import Derived.Test.YtlbjoflmfboeeaaBno
import Derived.Test.YtlbjoflmfboeeaaPLenx1
import Derived.Test.YtlbjoflmfboeeaaQfl
/-
  The walks of energy.Put and of the document's; no condition but those told.
-/
set_option linter.unusedVariables false
set_option linter.unusedSimpArgs false
namespace Go.Proofs.Ytlbjoflmfboeeaa.Erg
open Go.RowKit Go.Proofs.Ytlbjoflmfboeeaa Go.Proofs.YtlbjoflmfboeeaaW.PrintWords

/-- Ceilings that are right. -/
structure Rt (l : List Int) : Prop where
  len : l.length = 21
  bd : ∀ k (h : k < l.length), 0 ≤ l[k] ∧ l[k] ≤ 26
theorem right_rt {l : List Int} (h : rightB l = true) : Rt l := by
  unfold rightB at h
  rw [Bool.and_eq_true, decide_eq_true_eq, List.all_eq_true] at h
  refine ⟨h.2, fun k hk => ?_⟩
  have := h.1 _ (List.getElem_mem hk)
  unfold okc at this
  rwa [decide_eq_true_eq] at this
theorem rt_right {l : List Int} (h : Rt l) : rightB l = true := by
  unfold rightB
  rw [Bool.and_eq_true, decide_eq_true_eq, List.all_eq_true]
  refine ⟨fun x hx => ?_, h.len⟩
  obtain ⟨k, hk, rfl⟩ := List.getElem_of_mem hx
  unfold okc
  rw [decide_eq_true_eq]
  exact h.bd k hk
theorem Rt.getD {l : List Int} (h : Rt l) (k : Nat) : 0 ≤ l.getD k 0 ∧ l.getD k 0 ≤ 26 := by
  rw [List.getD_eq_getElem?_getD]
  by_cases hk : k < l.length
  · rw [List.getElem?_eq_getElem hk]; exact h.bd k hk
  · rw [List.getElem?_eq_none (by omega)]; decide
/-- The symbol of a difference. -/
def dif (l ah : List Int) (k : Nat) : Nat := ((l.getD k 0 - ah.getD k 0 + 32) % 32).toNat
theorem dif_lt (l ah : List Int) (k : Nat) : dif l ah k < AP.length := by
  show dif l ah k < 32
  unfold dif; omega
/-- The encoder's state behind k ceilings. -/
def eput (s : Enc.St) (l ah : List Int) : Nat → Enc.St
  | 0 => s
  | k + 1 => if ah.length = 0 then Enc.bitsS (eput s l ah k) (l.getD k 0) 5 else Enc.symS (eput s l ah k) AP (dif l ah k)
def reput (R : Enc.RSt) (l ah : List Int) : Nat → Enc.RSt
  | 0 => R
  | k + 1 => if ah.length = 0 then Enc.rbitsS (reput R l ah k) (l.getD k 0) 5 else Enc.rsymS (reput R l ah k) AP (dif l ah k)
theorem eput_ready {s : Enc.St} (ok : s.Ready) (l ah : List Int) (k : Nat) : (eput s l ah k).Ready ∧ (eput s l ah k).k ≤ s.k + 4 * k := by
  induction k with
  | zero => exact ⟨ok, Nat.le_refl _⟩
  | succ k ih =>
    unfold eput
    split
    · have := Enc.bitsS_ready ih.1 (l.getD k 0) 5 (by decide)
      exact ⟨this.1, by have := this.2.2; omega⟩
    · have := Enc.symS_ready ih.1 ap_good (dif_lt l ah k)
      exact ⟨this.1, by have := this.2.2; omega⟩
theorem reput_good {R : Enc.RSt} (ok : Enc.RGood R) (l ah : List Int) (k : Nat) : Enc.RGood (reput R l ah k) ∧ (reput R l ah k).K ≤ R.K + 4 * k := by
  induction k with
  | zero => exact ⟨ok, Nat.le_refl _⟩
  | succ k ih =>
    unfold reput
    split
    · have := Enc.rbitsS_good ih.1 (l.getD k 0) 5 (by decide)
      exact ⟨this.1, by have := this.2.2; omega⟩
    · have := Enc.rsymS_good ih.1 ap_good (dif_lt l ah k)
      exact ⟨this.1, by have := this.2.2; omega⟩
theorem eput_rel {s : Enc.St} {R : Enc.RSt} (h : Enc.Rel s R) (g : Enc.RGood R) (l ah : List Int) (k : Nat) : Enc.Rel (eput s l ah k) (reput R l ah k) := by
  induction k with
  | zero => exact h
  | succ k ih =>
    unfold eput reput
    split
    · exact Enc.bitsS_rel ih (reput_good g l ah k).1 _ 5 (by decide)
    · exact Enc.symS_rel ih (reput_good g l ah k).1 ap_good (dif_lt l ah k)
theorem next_fixed (L : List Int) (k : Nat) : Mdl.next true L k = L := by unfold Mdl.next; rw [if_pos rfl]
attribute [local irreducible] Enc.bitsS Enc.symS AP Enc.rbitsS Enc.rsymS
/-- A slice that is read lies apart from the encoder. -/
def Apart (u : Value) (e : Nat) (v : Value) (B : Nat) : Prop := ∀ g, u.ownBlock = some g → g ≠ e ∧ v.ownBlock ≠ some g ∧ g < B
theorem Put_nil (u ua : Value) (w : World) : Calls Try.prog 42 #[.pointer none, u, ua] w fun en w' => en = .returned (.int .i64 1) ∧ w' = w := by
  go_enter Try.func42, Try.ntmps42
  go_wp2
  go_ret
  exact ⟨rfl, rfl⟩
set_option maxRecDepth 100000 in
theorem Put_bad {w : World} (e : Nat) {u ua : Value} {l ah : List Int} (src : Src w .i64 u l) (hl : l.length ≤ 1000000000) (srca : Src w .i64 ua ah) (hal : ah.length ≤ 1000000000)
    (h : rightB l = false ∨ (0 < ah.length ∧ rightB ah = false)) :
    Calls Try.prog 42 #[.pointer (some ⟨e, 0, none⟩), u, ua] w fun en w' => en = .returned (.int .i64 1) ∧ w' = w := by
  have C1 := Lib.hid (Right_calls src hl)
  have C2 := Lib.hid (Right_calls srca hal)
  cases hr : rightB l with
  | false =>
    rw [hr] at C1
    clear h hr
    go_enter Try.func42, Try.ntmps42
    go_wp2_with fail
    refine C1.out.mono ?_
    rintro e1 w1 ⟨rfl, he⟩
    subst w1
    go_wp2_with fail
    go_ret
    exact ⟨rfl, rfl⟩
  | true =>
    have h2 : 0 < ah.length ∧ rightB ah = false := by
      rcases h with h | h
      · rw [hr] at h; cases h
      · exact h
    obtain ⟨h2, h3⟩ := h2
    rw [hr] at C1
    rw [h3] at C2
    clear h hr h3
    obtain ⟨A, c, rfl, _⟩ := srca
    have ih : (0 : Int) < (ah.length : Int) := by omega
    go_enter Try.func42, Try.ntmps42
    go_wp2_with fail
    refine C1.out.mono ?_
    rintro e1 w1 ⟨rfl, he⟩
    subst w1
    go_wp2_with fail
    refine C2.out.mono ?_
    rintro e1 w1 ⟨rfl, he⟩
    subst w1
    go_wp2_with fail
    go_ret
    exact ⟨rfl, rfl⟩
set_option maxHeartbeats 2000000 in
set_option maxRecDepth 100000 in
theorem Put_yes {w : World} {e : Nat} {s : Enc.St} {v : Value} (a : Enc.Is w e s v) (ok : s.Ready) (small : s.k ≤ 700000000) {u ua : Value} {l ah : List Int} (src : Src w .i64 u l) (rl : Rt l) (srca : Src w .i64 ua ah) (ra : ah.length = 0 ∨ Rt ah)
    (ap1 : Apart u e v w.heap.size) (ap2 : 0 < ah.length → Apart ua e v w.heap.size) :
    Calls Try.prog 42 #[.pointer (some ⟨e, 0, none⟩), u, ua] w fun en w' => ∃ v', en = .returned (.int .i64 0) ∧ Enc.Is w' e (eput s l ah 21) v' ∧ Enc.Step e v v' w w' := by
  have C1 := Lib.hid (Right_calls src (by rw [rl.len]; decide))
  rw [rt_right rl] at C1
  have A := Lib.hid a
  have RL := Lib.hid rl
  have OK := Lib.hid ok
  have S1 := Lib.hid src
  have S2 := Lib.hid srca
  have AP1 := Lib.hid ap1
  have AP2 := Lib.hid ap2
  have hle := a.blk.lt
  have vlt : Hid (∀ g, v.ownBlock = some g → g < w.heap.size) := Lib.hid (fun g hg => a.sl.lt hg)
  obtain ⟨uA, uc, rfl, _⟩ := src
  obtain ⟨aA, ac, rfl, _⟩ := srca
  rw [rl.len] at C1 S1 AP1 ⊢
  clear a rl ok ap1 ap2
  by_cases h0 : ah.length = 0
  · have HN : Hid (ah.length = 0) := Lib.hid h0
    rw [h0] at S2 AP2 ⊢
    clear h0 ra
    go_enter Try.func42, Try.ntmps42
    go_wp2_with fail
    refine C1.out.mono ?_
    rintro e1 w1 ⟨rfl, he⟩
    subst w1
    go_wp2_with fail
    refine (apart_calls _).mono ?_
    rintro e2 w2 ⟨m, h, cap, rfl, hm, hh, _, b2⟩
    have A2 := Lib.hid (A.out.below b2)
    have T2 := Lib.hid ((Enc.Step.refl e v w).below b2)
    clear b2
    go_wp2_with fail
    go_loopw [30] (fun i wr => ∃ (k : Nat) (v' : Value), k ≤ 21 ∧ i = .int .i64 (k : Int) ∧ Hid (Enc.Is wr e (eput s l ah k) v') ∧ Hid (Enc.Step e v v' w wr)) (fun i _ => 21 - (intOf i).toNat)
    case atStart => exact ⟨0, v, by omega, rfl, A2, T2⟩
    case round =>
      clear A2 T2
      obtain ⟨k, v', hk, rfl, A2, T2⟩ := hrel
      by_cases hlt : k < 21
      · obtain ⟨ad, rfl, dk⟩ := (S1.out.same (w' := wr) (fun g hg _ => T2.out.only.block g (AP1.out g hg).2.2 (fun hx => by
          rcases hx with hx | hx
          · exact (AP1.out g hg).1 hx
          · exact (AP1.out g hg).2.1 hx))).cell (j := k) (by rw [RL.out.len]; exact hlt)
        have bd := RL.out.bd k (by rw [RL.out.len]; exact hlt)
        have HX : Hid (l.getD k 0 = l[k]'(by rw [RL.out.len]; exact hlt)) := Lib.hid (Dig.getD_get l k _)
        have ER := Lib.hid (eput_ready OK.out l ah k)
        have HS : Hid (eput s l ah (k + 1) = Enc.bitsS (eput s l ah k) (l.getD k 0) 5) := Lib.hid (by show (if ah.length = 0 then _ else _) = _; rw [if_pos HN.out])
        rw [HX.out] at HS
        have ik : (k : Int) < 21 := by omega
        generalize l[k]'(by rw [RL.out.len]; exact hlt) = x at *
        have w1 : IntKind.u32.wrap x = x := Enc.wraps_u32 _ (by omega) (by omega)
        have BT := Lib.hid (Enc.Bits_yes A2.out ER.out.1 (by have := ER.out.2; omega) x 5 bd.1 (Int.lt_of_le_of_lt bd.2 (by decide)) (by decide))
        go_wp2_with fail
        refine BT.out.mono ?_
        rintro e3 w3 ⟨v3, rfl, a3, t3⟩
        have A3 := Lib.hid a3
        have T3 := Lib.hid (T2.out.trans t3)
        clear a3 t3 BT A2 T2
        go_wp2_with fail
        go_roundw
        case rel => exact ⟨k + 1, v3, by omega, by push_cast; rfl, Lib.hid (by rw [HS.out]; exact A3.out), T3⟩
        case measure => simp [intOf]; omega
      · obtain rfl : k = 21 := by omega
        go_wp2_with fail
        go_ret
        exact ⟨v', rfl, A2.out, T2.out⟩
  · have RA : Hid (Rt ah) := Lib.hid (by rcases ra with h | h; exact absurd h h0; exact h)
    have C2 := Lib.hid (Right_calls S2.out (by rw [RA.out.len]; decide))
    rw [rt_right RA.out] at C2
    have AP3 := Lib.hid (AP2.out (by omega))
    rw [RA.out.len] at S2 AP3 C2 ⊢
    clear h0 ra AP2
    go_enter Try.func42, Try.ntmps42
    go_wp2_with fail
    refine C1.out.mono ?_
    rintro e1 w1 ⟨rfl, he⟩
    subst w1
    go_wp2_with fail
    refine C2.out.mono ?_
    rintro e1 w1 ⟨rfl, he⟩
    subst w1
    go_wp2_with fail
    refine (apart_calls _).mono ?_
    rintro e2 w2 ⟨m, h, cap, rfl, hm, hh, mi, b2⟩
    have A2 := Lib.hid (A.out.below b2)
    have M2 := Lib.hid mi
    have T2 := Lib.hid ((Enc.Step.refl e v w).below b2)
    clear b2 mi
    go_wp2_with fail
    go_loopw [30] (fun i wr => ∃ (k : Nat) (v' : Value), k ≤ 21 ∧ i = .int .i64 (k : Int) ∧ Hid (Enc.Is wr e (eput s l ah k) v') ∧ Hid (Mdl.Is wr m h cap AP true) ∧ Hid (Enc.Step e v v' w wr) ∧ (∀ g, v'.ownBlock = some g → g ≠ m ∧ g ≠ h)) (fun i _ => 21 - (intOf i).toNat)
    case atStart => exact ⟨0, v, by omega, rfl, A2, M2, T2, fun g hg => by have := vlt.out g hg; omega⟩
    case round =>
      clear A2 T2 M2
      obtain ⟨k, v', hk, rfl, A2, M2, T2, nv⟩ := hrel
      by_cases hlt : k < 21
      · obtain ⟨ad, rfl, dk⟩ := (S1.out.same (w' := wr) (fun g hg _ => T2.out.only.block g (AP1.out g hg).2.2 (fun hx => by
          rcases hx with hx | hx
          · exact (AP1.out g hg).1 hx
          · exact (AP1.out g hg).2.1 hx))).cell (j := k) (by rw [RL.out.len]; exact hlt)
        obtain ⟨ad2, rfl, dk2⟩ := (S2.out.same (w' := wr) (fun g hg _ => T2.out.only.block g (AP3.out g hg).2.2 (fun hx => by
          rcases hx with hx | hx
          · exact (AP3.out g hg).1 hx
          · exact (AP3.out g hg).2.1 hx))).cell (j := k) (by rw [RA.out.len]; exact hlt)
        have bd := RL.out.bd k (by rw [RL.out.len]; exact hlt)
        have bd2 := RA.out.bd k (by rw [RA.out.len]; exact hlt)
        have HX : Hid (l.getD k 0 = l[k]'(by rw [RL.out.len]; exact hlt)) := Lib.hid (Dig.getD_get l k _)
        have HX2 : Hid (ah.getD k 0 = ah[k]'(by rw [RA.out.len]; exact hlt)) := Lib.hid (Dig.getD_get ah k _)
        have ER := Lib.hid (eput_ready OK.out l ah k)
        have HS : Hid (eput s l ah (k + 1) = Enc.symS (eput s l ah k) AP (dif l ah k)) := Lib.hid (by show (if ah.length = 0 then _ else _) = _; rw [if_neg (by rw [RA.out.len]; decide)])
        have HD : Hid (dif l ah k = ((l.getD k 0 - ah.getD k 0 + 32) % 32).toNat) := Lib.hid rfl
        have HDL := Lib.hid (dif_lt l ah k)
        rw [HX.out, HX2.out] at HD
        have ik : (k : Int) < 21 := by omega
        generalize l[k]'(by rw [RL.out.len]; exact hlt) = x at *
        generalize ah[k]'(by rw [RA.out.len]; exact hlt) = y at *
        obtain ⟨q, hq⟩ : ∃ q, dif l ah k = q := ⟨_, rfl⟩
        rw [hq] at HS HD HDL
        have hd := HD.out
        have e0 : (x - y + 32) % 32 = (q : Int) := by omega
        have e1 : Int.tmod (x - y + 32) 32 = (q : Int) := by rw [Int.tmod_eq_emod_of_nonneg (by omega)]; exact e0
        have w1 : IntKind.i64.wrap (q : Int) = (q : Int) := wrapI64 (by omega) (by omega)
        clear hq hd
        have BT := Lib.hid (Enc.Symbol_yes A2.out ER.out.1 (by have := ER.out.2; omega) M2.out ap_good q HDL.out (by omega) (by omega) (fun hx => (nv _ hx).1 rfl) (fun hx => (nv _ hx).2 rfl))
        go_wp2_with fail
        refine BT.out.mono ?_
        rintro e3 w3 ⟨v3, rfl, a3, m3, o3, own3⟩
        have A3 := Lib.hid a3
        have M3 : Hid (Mdl.Is w3 m h cap AP true) := Lib.hid (by rw [next_fixed] at m3; exact m3)
        have lm := M2.out.blk.lt
        have lh := M2.out.row.lt
        have nv3 : ∀ g, v3.ownBlock = some g → g ≠ m ∧ g ≠ h := fun g hg => by
          rcases own3 g hg with h1 | h1
          · exact nv g h1
          · omega
        have T3 : Hid (Enc.Step e v v3 w w3) := Lib.hid ⟨T2.out.only.then o3 (fun i hi => by
          rcases hi with (hi | hi) | hi
          · exact .inl (.inl hi)
          · rcases T2.out.own i hi with h1 | h1
            · exact .inl (.inr h1)
            · exact .inr h1
          · exact .inr (by omega)), fun g hg => by
          rcases own3 g hg with h1 | h1
          · exact T2.out.own g h1
          · exact .inr (Nat.le_trans T2.out.only.size h1)⟩
        clear a3 m3 o3 own3 BT A2 T2 M2 nv
        go_wp2_with fail
        go_roundw
        case rel => exact ⟨k + 1, v3, by omega, by push_cast; rfl, Lib.hid (by rw [HS.out]; exact A3.out), M3, T3, nv3⟩
        case measure => simp [intOf]; omega
      · obtain rfl : k = 21 := by omega
        go_wp2_with fail
        go_ret
        exact ⟨v', rfl, A2.out, T2.out⟩
/-- A slice that is read lies apart from the document's encoder. -/
def RApart (u : Value) (e gb B : Nat) : Prop := ∀ g, u.ownBlock = some g → g ≠ e ∧ g ≠ gb ∧ g < B
def PPost (e gb : Nat) (R : Enc.RSt) (w : World) (en : Ending) (w' : World) : Prop := ∃ g' c', en = .returned (.tuple #[]) ∧ Enc.RIs w' e R g' c' ∧ Enc.RStep e gb g' w w'
set_option maxHeartbeats 2000000 in
set_option maxRecDepth 100000 in
theorem RPut_yes {w : World} {e gb cb : Nat} {R : Enc.RSt} (a : Enc.RIs w e R gb cb) (ok : Enc.RGood R) (small : R.K ≤ 700000000) {u ua : Value} {l ah : List Int} (src : Src w .i64 u l) (rl : Rt l) (srca : Src w .i64 ua ah) (ra : ah.length = 0 ∨ Rt ah)
    (ap1 : RApart u e gb w.heap.size) (ap2 : 0 < ah.length → RApart ua e gb w.heap.size) :
    Calls Try.prog 43 #[.pointer (some ⟨e, 0, none⟩), u, ua] w (PPost e gb (reput R l ah 21) w) := by
  have A := Lib.hid a
  have RL := Lib.hid rl
  have OK := Lib.hid ok
  have S1 := Lib.hid src
  have S2 := Lib.hid srca
  have AP1 := Lib.hid ap1
  have AP2 := Lib.hid ap2
  have hle := a.blk.lt
  have vlt := a.row.lt
  obtain ⟨uA, uc, rfl, _⟩ := src
  obtain ⟨aA, ac, rfl, _⟩ := srca
  rw [rl.len] at S1 AP1 ⊢
  clear a rl ok ap1 ap2
  by_cases h0 : ah.length = 0
  · have HN : Hid (ah.length = 0) := Lib.hid h0
    rw [h0] at S2 AP2 ⊢
    clear h0 ra
    go_enter Try.func43, Try.ntmps43
    go_wp2_with fail
    refine (rapart_calls _).mono ?_
    rintro e2 w2 ⟨m, h, cap, rfl, hm, hh, _, b2⟩
    have A2 := Lib.hid (A.out.only (Only.of_below b2 : Only (fun _ => False) _ _) (fun x => x) (fun x => x))
    have T2 := Lib.hid ((Enc.RStep.refl e gb w).below b2)
    clear b2
    go_wp2_with fail
    go_loopw [7] (fun i wr => ∃ (k : Nat) (g' c' : Nat), k ≤ 21 ∧ i = .int .i64 (k : Int) ∧ Hid (Enc.RIs wr e (reput R l ah k) g' c') ∧ Hid (Enc.RStep e gb g' w wr)) (fun i _ => 21 - (intOf i).toNat)
    case atStart => exact ⟨0, gb, cb, by omega, rfl, A2, T2⟩
    case round =>
      clear A2 T2
      obtain ⟨k, g', c', hk, rfl, A2, T2⟩ := hrel
      by_cases hlt : k < 21
      · obtain ⟨ad, rfl, dk⟩ := (S1.out.same (w' := wr) (fun g hg _ => T2.out.only.block g (AP1.out g hg).2.2 (fun hx => by
          rcases hx with hx | hx
          · exact (AP1.out g hg).1 hx
          · exact (AP1.out g hg).2.1 hx))).cell (j := k) (by rw [RL.out.len]; exact hlt)
        have bd := RL.out.bd k (by rw [RL.out.len]; exact hlt)
        have HX : Hid (l.getD k 0 = l[k]'(by rw [RL.out.len]; exact hlt)) := Lib.hid (Dig.getD_get l k _)
        have ER := Lib.hid (reput_good OK.out l ah k)
        have HS : Hid (reput R l ah (k + 1) = Enc.rbitsS (reput R l ah k) (l.getD k 0) 5) := Lib.hid (by show (if ah.length = 0 then _ else _) = _; rw [if_pos HN.out])
        rw [HX.out] at HS
        have ik : (k : Int) < 21 := by omega
        generalize l[k]'(by rw [RL.out.len]; exact hlt) = x at *
        have BT := Lib.hid (Enc.RBits_yes A2.out ER.out.1 (by have := ER.out.2; omega) x 5 bd.1 (Int.lt_of_le_of_lt bd.2 (by decide)) (by decide))
        go_wp2_with fail
        refine BT.out.mono ?_
        rintro e3 w3 ⟨g3, c3, rfl, a3, t3⟩
        have A3 := Lib.hid a3
        have T3 := Lib.hid (T2.out.trans t3)
        clear a3 t3 BT A2 T2
        go_wp2_with fail
        go_roundw
        case rel => exact ⟨k + 1, g3, c3, by omega, by push_cast; rfl, Lib.hid (by rw [HS.out]; exact A3.out), T3⟩
        case measure => simp [intOf]; omega
      · obtain rfl : k = 21 := by omega
        go_wp2_with fail
        exact bodyPost_end (results_none rfl _ _ _) rfl ⟨g', c', rfl, A2.out, T2.out⟩
  · have RA : Hid (Rt ah) := Lib.hid (by rcases ra with h | h; exact absurd h h0; exact h)
    have AP3 := Lib.hid (AP2.out (by omega))
    rw [RA.out.len] at S2 AP3 ⊢
    clear h0 ra AP2
    go_enter Try.func43, Try.ntmps43
    go_wp2_with fail
    refine (rapart_calls _).mono ?_
    rintro e2 w2 ⟨m, h, cap, rfl, hm, hh, mi, b2⟩
    have A2 := Lib.hid (A.out.only (Only.of_below b2 : Only (fun _ => False) _ _) (fun x => x) (fun x => x))
    have M2 := Lib.hid mi
    have T2 := Lib.hid ((Enc.RStep.refl e gb w).below b2)
    clear b2 mi
    go_wp2_with fail
    go_loopw [7] (fun i wr => ∃ (k : Nat) (g' c' : Nat), k ≤ 21 ∧ i = .int .i64 (k : Int) ∧ Hid (Enc.RIs wr e (reput R l ah k) g' c') ∧ Hid (Mdl.IsR wr m h cap AP true) ∧ Hid (Enc.RStep e gb g' w wr) ∧ g' ≠ m ∧ g' ≠ h) (fun i _ => 21 - (intOf i).toNat)
    case atStart => exact ⟨0, gb, cb, by omega, rfl, A2, M2, T2, by omega, by omega⟩
    case round =>
      clear A2 T2 M2
      obtain ⟨k, g', c', hk, rfl, A2, M2, T2, nv1, nv2⟩ := hrel
      by_cases hlt : k < 21
      · obtain ⟨ad, rfl, dk⟩ := (S1.out.same (w' := wr) (fun g hg _ => T2.out.only.block g (AP1.out g hg).2.2 (fun hx => by
          rcases hx with hx | hx
          · exact (AP1.out g hg).1 hx
          · exact (AP1.out g hg).2.1 hx))).cell (j := k) (by rw [RL.out.len]; exact hlt)
        obtain ⟨ad2, rfl, dk2⟩ := (S2.out.same (w' := wr) (fun g hg _ => T2.out.only.block g (AP3.out g hg).2.2 (fun hx => by
          rcases hx with hx | hx
          · exact (AP3.out g hg).1 hx
          · exact (AP3.out g hg).2.1 hx))).cell (j := k) (by rw [RA.out.len]; exact hlt)
        have bd := RL.out.bd k (by rw [RL.out.len]; exact hlt)
        have bd2 := RA.out.bd k (by rw [RA.out.len]; exact hlt)
        have HX : Hid (l.getD k 0 = l[k]'(by rw [RL.out.len]; exact hlt)) := Lib.hid (Dig.getD_get l k _)
        have HX2 : Hid (ah.getD k 0 = ah[k]'(by rw [RA.out.len]; exact hlt)) := Lib.hid (Dig.getD_get ah k _)
        have ER := Lib.hid (reput_good OK.out l ah k)
        have HS : Hid (reput R l ah (k + 1) = Enc.rsymS (reput R l ah k) AP (dif l ah k)) := Lib.hid (by show (if ah.length = 0 then _ else _) = _; rw [if_neg (by rw [RA.out.len]; decide)])
        have HD : Hid (dif l ah k = ((l.getD k 0 - ah.getD k 0 + 32) % 32).toNat) := Lib.hid rfl
        have HDL := Lib.hid (dif_lt l ah k)
        rw [HX.out, HX2.out] at HD
        have ik : (k : Int) < 21 := by omega
        generalize l[k]'(by rw [RL.out.len]; exact hlt) = x at *
        generalize ah[k]'(by rw [RA.out.len]; exact hlt) = y at *
        obtain ⟨q, hq⟩ : ∃ q, dif l ah k = q := ⟨_, rfl⟩
        rw [hq] at HS HD HDL
        have hd := HD.out
        have e0 : (x + 32 - y) % 32 = (q : Int) := by omega
        have e1 : Int.tmod (x + 32 - y) 32 = (q : Int) := by rw [Int.tmod_eq_emod_of_nonneg (by omega)]; exact e0
        have w1 : IntKind.i64.wrap (q : Int) = (q : Int) := wrapI64 (by omega) (by omega)
        have w2 : IntKind.i64.wrap (x + 32) = x + 32 := wrapI64 (by omega) (by omega)
        have w3 : IntKind.i64.wrap (x + 32 - y) = x + 32 - y := wrapI64 (by omega) (by omega)
        clear hq hd
        go_wp2_with fail
        refine region_quiet_tail 13 (by kernel_rfl) (by kernel_rfl) ?_
        simp only [List.take_succ_cons, List.take_zero, List.drop_succ_cons, List.drop_zero]
        repeat (quiet_step (fail))
        refine wpQuiet_nil ?_
        rintro _ ⟨nq, rfl⟩
        have BT := Lib.hid (Enc.RSymbol_yes (A2.out.drewN nq) ER.out.1 (by have := ER.out.2; omega) (M2.out.drewN nq) ap_good q HDL.out (by omega) (by omega) nv1 nv2)
        have lm := M2.out.blk.lt
        have lh := M2.out.row.lt
        go_wp2_with fail
        refine BT.out.mono ?_
        rintro e3 w3 ⟨g3, c3, rfl, a3, m3, o3, own3⟩
        have A3 := Lib.hid a3
        have M3 : Hid (Mdl.IsR w3 m h cap AP true) := Lib.hid (by rw [next_fixed] at m3; exact m3)
        have own3 : g3 = g' ∨ wr.heap.size ≤ g3 := own3
        have nv3 : g3 ≠ m ∧ g3 ≠ h := by omega
        have T3 : Hid (Enc.RStep e gb g3 w w3) := Lib.hid ⟨(T2.out.only.drewN nq).then o3 (fun i hi => by
          rcases hi with (hi | hi) | hi
          · exact .inl (.inl hi)
          · rcases T2.out.own with h1 | h1
            · exact .inl (.inr (hi.trans h1))
            · exact .inr (by omega)
          · exact .inr (by omega)), by
          have h2 := T2.out.only.size
          have h3 := T2.out.own
          omega⟩
        clear a3 m3 o3 BT A2 T2 M2
        go_wp2_with fail
        go_roundw
        case rel => exact ⟨k + 1, g3, c3, by omega, by push_cast; rfl, Lib.hid (by rw [HS.out]; exact A3.out), M3, T3, nv3.1, nv3.2⟩
        case measure => simp [intOf]; omega
      · obtain rfl : k = 21 := by omega
        go_wp2_with fail
        exact bodyPost_end (results_none rfl _ _ _) rfl ⟨g', c', rfl, A2.out, T2.out⟩
end Go.Proofs.Ytlbjoflmfboeeaa.Erg

/-
  The walks of energy.Get and of the document's; no condition but those told.
-/
set_option linter.unusedVariables false
set_option linter.unusedSimpArgs false
namespace Go.Proofs.Ytlbjoflmfboeeaa.Erg
open Go.RowKit Go.Proofs.Ytlbjoflmfboeeaa Go.Proofs.YtlbjoflmfboeeaaW.PrintWords Go.Proofs.Ytlbjoflmfboeeaa.Deco

/-- The decoder's state behind k ceilings, and these. -/
def dget (s : DSt) (ah : List Int) : Nat → DSt × List Int
  | 0 => (s, [])
  | k + 1 => if ah.length = 0 then ((bitsD (dget s ah k).1 0 5).2, (dget s ah k).2 ++ [(bitsD (dget s ah k).1 0 5).1])
    else (symS (dget s ah k).1 AP, (dget s ah k).2 ++ [(ah.getD k 0 + symK (dget s ah k).1 AP) % 32])
theorem dget_len (s : DSt) (ah : List Int) (k : Nat) : (dget s ah k).2.length = k := by
  induction k with
  | zero => rfl
  | succ k ih => unfold dget; split <;> simp [ih]
theorem dget_ready {s : DSt} (ok : s.Ready) (ah : List Int) (k : Nat) : (dget s ah k).1.Ready ∧ (dget s ah k).1.bs = s.bs ∧ s.n ≤ (dget s ah k).1.n ∧ (dget s ah k).1.n ≤ s.n + 4 * k := by
  induction k with
  | zero => exact ⟨ok, rfl, Nat.le_refl _, Nat.le_refl _⟩
  | succ k ih =>
    unfold dget
    split
    · have := bits_ready ih.1 0 5 (by decide)
      exact ⟨this.1, this.2.1.trans ih.2.1, Nat.le_trans ih.2.2.1 this.2.2.1, Nat.le_trans this.2.2.2 (by have := ih.2.2.2; omega)⟩
    · have := sym_ready ih.1 ap_good
      exact ⟨this.1, this.2.1.trans ih.2.1, Nat.le_trans ih.2.2.1 this.2.2.1, Nat.le_trans this.2.2.2 (by have := ih.2.2.2; omega)⟩
theorem pad_set (xs : List Int) (m : Nat) (v : Int) : (xs ++ List.replicate (m + 1) 0).set xs.length v = (xs ++ [v]) ++ List.replicate m 0 := by
  rw [List.set_append_right _ _ (Nat.le_refl _), Nat.sub_self, List.replicate_succ, List.set_cons_zero, List.append_assoc]; rfl
def GPost (P : DSt × List Int) (d : Nat) (v : Value) (w : World) (en : Ending) (w' : World) : Prop :=
  ((rightB P.2 = true ∧ ∃ g cap, en = .returned (.tuple #[.slice (some ⟨g, 0, none⟩) 21 cap, .int .i64 0]) ∧ w.heap.size ≤ g ∧ RowI w' 3 .i64 g cap P.2) ∨ (rightB P.2 = false ∧ en = .returned (.tuple #[.slice none 0 0, .int .i64 3]))) ∧
    Is w' d 120 .u32 P.1 v ∧ At d w w'
attribute [local irreducible] bitsD symS symK AP takeS atS
theorem Get_nil (ua : Value) (w : World) : Calls Try.prog 44 #[.pointer none, ua] w fun en w' => en = .returned (.tuple #[.slice none 0 0, .int .i64 1]) ∧ w' = w := by
  go_enter Try.func44, Try.ntmps44
  go_wp2
  go_ret2
  exact ⟨rfl, rfl⟩
set_option maxRecDepth 100000 in
theorem Get_bad {w : World} (d : Nat) {ua : Value} {ah : List Int} (srca : Src w .i64 ua ah) (hal : ah.length ≤ 1000000000) (h : 0 < ah.length) (h3 : rightB ah = false) :
    Calls Try.prog 44 #[.pointer (some ⟨d, 0, none⟩), ua] w fun en w' => en = .returned (.tuple #[.slice none 0 0, .int .i64 1]) ∧ w' = w := by
  have C2 := Lib.hid (Right_calls srca hal)
  rw [h3] at C2
  clear h3
  obtain ⟨A, c, rfl, _⟩ := srca
  have ih : (0 : Int) < (ah.length : Int) := by omega
  go_enter Try.func44, Try.ntmps44
  go_wp2_with fail
  refine C2.out.mono ?_
  rintro e1 w1 ⟨rfl, he⟩
  subst w1
  go_wp2_with fail
  go_ret2
  exact ⟨rfl, rfl⟩
set_option maxHeartbeats 2000000 in
set_option maxRecDepth 100000 in
theorem Get_yes {w : World} {d : Nat} {s : DSt} {v : Value} (a : Is w d 120 .u32 s v) (ok : s.Ready) (hn : s.n ≤ 700000000000) {ua : Value} {ah : List Int} (srca : Src w .i64 ua ah) (ra : ah.length = 0 ∨ Rt ah)
    (ap2 : 0 < ah.length → ∀ g, ua.ownBlock = some g → g ≠ d ∧ g < w.heap.size) :
    Calls Try.prog 44 #[.pointer (some ⟨d, 0, none⟩), ua] w (GPost (dget s ah 21) d v w) := by
  have hm : ∀ w : World, (Instr.makeSlice 54 (.int .i64 21) (.int .i64 21)).run Try.prog w = .ok (.slice (some ⟨w.heap.size, 0, none⟩) 21 21) (w.alloc (.cells (madeCells #[.int .i64 0] 21) 3)) := fun w => run_make_row' 54 3 (.int .i64 0) 8 Try.underlying54 (by kernel_rfl) rfl .i64 .i64 21 (by omega) (by omega) w
  have A := Lib.hid a
  have OK := Lib.hid ok
  have S2 := Lib.hid srca
  have AP2 := Lib.hid ap2
  have hle := a.blk.lt
  have vlt : Hid (∀ g, v.ownBlock = some g → g < w.heap.size) := Lib.hid (fun g hg => a.sl.lt hg)
  obtain ⟨aA, ac, rfl, _⟩ := srca
  clear a ok ap2
  by_cases h0 : ah.length = 0
  · have HN : Hid (ah.length = 0) := Lib.hid h0
    rw [h0] at S2 AP2 ⊢
    clear h0 ra
    go_enter Try.func44, Try.ntmps44
    go_wp2_with fail
    refine (apart_calls _).mono ?_
    rintro e2 w2 ⟨m, h, cap, rfl, hm1, hh, _, b2⟩
    have A2 := Lib.hid ((A.out.below b2).below ((Below.refl _ _).alloc (Nat.le_refl _) (.cells (madeCells #[.int .i64 0] 21) 3) : Below _ _ _))
    have s2 := b2.size
    have O2 : Hid (At d w (w2.alloc (.cells (madeCells #[.int .i64 0] 21) 3))) := Lib.hid ((Only.of_below b2 : At d w w2).trans (Only.of_below ((Below.refl _ _).alloc (Nat.le_refl _) _)))
    have R2 := Lib.hid (RowI.new w2 3 .i64 21 0 (by decide))
    clear b2
    go_wp2_with fail
    generalize w2.heap.size = G at *
    go_loopw [29] (fun i wr => ∃ (k : Nat), k ≤ 21 ∧ i = .int .i64 (k : Int) ∧ Hid (Is wr d 120 .u32 (dget s ah k).1 v) ∧ Hid (RowI wr 3 .i64 G 21 ((dget s ah k).2 ++ List.replicate (21 - k) 0)) ∧ Hid (At d w wr)) (fun i _ => 21 - (intOf i).toNat)
    case atStart => exact ⟨0, by omega, rfl, A2, R2, O2⟩
    case round =>
      clear A2 R2 O2
      obtain ⟨k, hk, rfl, A2, R2, O2⟩ := hrel
      have hl := dget_len s ah k
      have HL := Lib.hid hl
      by_cases hlt : k < 21
      · have ER := Lib.hid (dget_ready OK.out ah k)
        have HS : Hid (dget s ah (k + 1) = ((bitsD (dget s ah k).1 0 5).2, (dget s ah k).2 ++ [(bitsD (dget s ah k).1 0 5).1])) := Lib.hid (by show (if ah.length = 0 then _ else _) = _; rw [if_pos HN.out])
        have BB := bits_bd ER.out.1 5 (by decide)
        have dk := R2.out.cell (i := k) (by rw [List.length_append, hl, List.length_replicate]; omega)
        have fk := R2.out.free k
        have PS : Hid (((dget s ah k).2 ++ List.replicate (21 - k) 0).set k (bitsD (dget s ah k).1 0 5).1 = (dget s ah (k + 1)).2 ++ List.replicate (21 - (k + 1)) 0) := Lib.hid (by
          have := pad_set (dget s ah k).2 (21 - (k + 1)) (bitsD (dget s ah k).1 0 5).1
          rw [hl, show 21 - (k + 1) + 1 = 21 - k from by omega] at this
          rw [HS.out]; exact this)
        have GD : d ≠ G := by omega
        have GV : ∀ g, v.ownBlock = some g → g ≠ G := fun g hg => by have := vlt.out g hg; omega
        have BT := Lib.hid (Bits_yes A2.out ER.out.1 (by have := ER.out.2.2.2; omega) 5 (by decide))
        have HN1 : Hid ((dget s ah (k + 1)).1 = (bitsD (dget s ah k).1 0 5).2) := Lib.hid (by rw [HS.out])
        generalize ((dget s ah k).2 ++ List.replicate (21 - k) 0)[k]'(by rw [List.length_append, hl, List.length_replicate]; omega) = y0 at *
        obtain ⟨X, hX⟩ : ∃ X, (bitsD (dget s ah k).1 0 5).1 = X := ⟨_, rfl⟩
        rw [hX] at BB PS BT
        clear hX HS
        have w1 : IntKind.i64.wrap X = X := wrapI64 (by omega) (by omega)
        clear hl
        go_wp2_with fail
        refine BT.out.mono ?_
        rintro e3 w3 ⟨rfl, a3, o3⟩
        have A3 := Lib.hid a3
        have R3 := Lib.hid (R2.out.of_same (o3.block G R2.out.lt (by omega)))
        have O3 := Lib.hid (O2.out.trans o3)
        have dk : w3.cell? ⟨G, k, none⟩ = some (.int .i64 y0) := by rw [← dk]; exact World.cell?_of_block (o3.block G R2.out.lt (by omega))
        have fk := R3.out.free k
        clear a3 o3 BT A2 R2 O2
        go_wp2_with fail
        go_roundw
        case rel => exact ⟨k + 1, by omega, by push_cast; rfl, Lib.hid (by rw [HN1.out]; exact A3.out.only (At.cell (At.refl G w3) k _) (fun hx => GD hx) (fun g hg hx => GV g hg hx)), Lib.hid (by rw [← PS.out]; exact R3.out.set k _), Lib.hid (Only.set O3.out (p := ⟨G, k, none⟩) (.inr (by omega)) _)⟩
        case measure => simp [intOf]; omega
      · obtain rfl : k = 21 := by omega
        rw [Nat.sub_self, show List.replicate 0 (0 : Int) = [] from rfl, List.append_nil] at R2
        have RC := Lib.hid (Right_calls (Src.of_sl (Sl.row R2.out)) (by rw [hl]; decide))
        rw [hl] at RC
        clear hl
        go_wp2_with fail
        refine RC.out.mono ?_
        rintro e3 w3 ⟨rfl, he⟩
        subst w3
        have HG : w.heap.size ≤ G := by omega
        cases hr : rightB (dget s ah 21).2 with
        | true =>
          go_wp2_with fail
          go_ret2
          exact ⟨.inl ⟨hr, G, 21, rfl, HG, R2.out⟩, A2.out, O2.out⟩
        | false =>
          go_wp2_with fail
          go_ret2
          exact ⟨.inr ⟨hr, rfl⟩, A2.out, O2.out⟩
  · have RA : Hid (Rt ah) := Lib.hid (by rcases ra with h | h; exact absurd h h0; exact h)
    have C2 := Lib.hid (Right_calls S2.out (by rw [RA.out.len]; decide))
    rw [rt_right RA.out] at C2
    have AP3 := Lib.hid (AP2.out (by omega))
    rw [RA.out.len] at S2 C2 AP3 ⊢
    clear h0 ra AP2
    go_enter Try.func44, Try.ntmps44
    go_wp2_with fail
    refine C2.out.mono ?_
    rintro e1 w1 ⟨rfl, he⟩
    subst w1
    go_wp2_with fail
    refine (apart_calls _).mono ?_
    rintro e2 w2 ⟨m, h, cap, rfl, hm1, hh, mi, b2⟩
    have bA : Below w2.heap.size w2 (w2.alloc (.cells (madeCells #[.int .i64 0] 21) 3)) := (Below.refl _ _).alloc (Nat.le_refl _) _
    have A2 := Lib.hid ((A.out.below b2).below bA)
    have M2 : Hid (Mdl.Is (w2.alloc (.cells (madeCells #[.int .i64 0] 21) 3)) m h cap AP true) := Lib.hid (mi.only (Only.of_below bA : Only (fun _ => False) _ _) (fun x => x) (fun x => x))
    have s2 := b2.size
    have lm := mi.blk.lt
    have lh := mi.row.lt
    have O2 : Hid (Only (fun i => i = d ∨ (i = m ∨ i = h)) w (w2.alloc (.cells (madeCells #[.int .i64 0] 21) 3))) := Lib.hid ((Only.of_below b2 : Only (fun i => i = d ∨ (i = m ∨ i = h)) w w2).trans (Only.of_below bA))
    have R2 := Lib.hid (RowI.new w2 3 .i64 21 0 (by decide))
    clear b2 mi bA
    go_wp2_with fail
    generalize w2.heap.size = G at *
    have nv : ∀ g, v.ownBlock = some g → g ≠ m ∧ g ≠ h ∧ g ≠ G := fun g hg => by have := vlt.out g hg; omega
    have NV := Lib.hid nv
    clear nv
    go_loopw [29] (fun i wr => ∃ (k : Nat), k ≤ 21 ∧ i = .int .i64 (k : Int) ∧ Hid (Is wr d 120 .u32 (dget s ah k).1 v) ∧ Hid (Mdl.Is wr m h cap AP true) ∧ Hid (RowI wr 3 .i64 G 21 ((dget s ah k).2 ++ List.replicate (21 - k) 0)) ∧ Hid (Only (fun i => i = d ∨ (i = m ∨ i = h)) w wr)) (fun i _ => 21 - (intOf i).toNat)
    case atStart => exact ⟨0, by omega, rfl, A2, M2, R2, O2⟩
    case round =>
      clear A2 R2 O2 M2
      obtain ⟨k, hk, rfl, A2, M2, R2, O2⟩ := hrel
      have hl := dget_len s ah k
      by_cases hlt : k < 21
      · obtain ⟨ad2, rfl, dk2⟩ := (S2.out.same (w' := wr) (fun g hg _ => O2.out.block g (AP3.out g hg).2 (fun hx => by
          rcases hx with hx | hx
          · exact (AP3.out g hg).1 hx
          · have := (AP3.out g hg).2; omega))).cell (j := k) (by rw [RA.out.len]; exact hlt)
        have bd2 := RA.out.bd k (by rw [RA.out.len]; exact hlt)
        have HX2 : Hid (ah.getD k 0 = ah[k]'(by rw [RA.out.len]; exact hlt)) := Lib.hid (Dig.getD_get ah k _)
        have ER := Lib.hid (dget_ready OK.out ah k)
        have HS : Hid (dget s ah (k + 1) = (symS (dget s ah k).1 AP, (dget s ah k).2 ++ [(ah.getD k 0 + symK (dget s ah k).1 AP) % 32])) := Lib.hid (by show (if ah.length = 0 then _ else _) = _; rw [if_neg (by rw [RA.out.len]; decide)])
        rw [HX2.out] at HS
        have SK := sym_lt (s := (dget s ah k).1) ap_good
        have hap : AP.length = 32 := by unfold AP; rfl
        rw [hap] at SK
        have dk := R2.out.cell (i := k) (by rw [List.length_append, hl, List.length_replicate]; omega)
        generalize ah[k]'(by rw [RA.out.len]; exact hlt) = x at *
        have PS : Hid (((dget s ah k).2 ++ List.replicate (21 - k) 0).set k ((x + symK (dget s ah k).1 AP) % 32) = (dget s ah (k + 1)).2 ++ List.replicate (21 - (k + 1)) 0) := Lib.hid (by
          have := pad_set (dget s ah k).2 (21 - (k + 1)) ((x + symK (dget s ah k).1 AP) % 32)
          rw [hl, show 21 - (k + 1) + 1 = 21 - k from by omega] at this
          rw [HS.out]; exact this)
        have BT := Lib.hid (Symbol_yes A2.out ER.out.1 (by have := ER.out.2.2.2; omega) M2.out ap_good (by omega) (by omega) (fun hx => (NV.out _ hx).1 rfl) (fun hx => (NV.out _ hx).2.1 rfl))
        have HN1 : Hid ((dget s ah (k + 1)).1 = symS (dget s ah k).1 AP) := Lib.hid (by rw [HS.out])
        generalize ((dget s ah k).2 ++ List.replicate (21 - k) 0)[k]'(by rw [List.length_append, hl, List.length_replicate]; omega) = y0 at *
        obtain ⟨q, hq⟩ : ∃ q, symK (dget s ah k).1 AP = q := ⟨_, rfl⟩
        rw [hq] at SK PS BT
        clear hq HS hl hap
        obtain ⟨z, hz⟩ : ∃ z, (x + (q : Int)) % 32 = z := ⟨_, rfl⟩
        have e1 : Int.tmod (x + (q : Int)) 32 = z := by rw [Int.tmod_eq_emod_of_nonneg (by omega)]; exact hz
        have w1 : IntKind.i64.wrap z = z := wrapI64 (by omega) (by omega)
        rw [hz] at PS
        go_wp2_with fail
        refine BT.out.mono ?_
        rintro e3 w3 ⟨rfl, a3, m3, o3⟩
        have hG : G ≠ d ∧ G ≠ m ∧ G ≠ h := by omega
        have oG := o3.block G R2.out.lt (by omega)
        have A3 := Lib.hid a3
        have M3 : Hid (Mdl.Is w3 m h cap AP true) := Lib.hid (by rw [next_fixed] at m3; exact m3)
        have R3 := Lib.hid (R2.out.of_same oG)
        have O3 := Lib.hid (O2.out.trans o3)
        have dk : w3.cell? ⟨G, k, none⟩ = some (.int .i64 y0) := by rw [← dk]; exact World.cell?_of_block oG
        have fk := R3.out.free k
        obtain ⟨ad3, hh3, dk3⟩ := (S2.out.same (w' := w3) (fun g hg _ => O3.out.block g (AP3.out g hg).2 (fun hx => by
          rcases hx with hx | hx
          · exact (AP3.out g hg).1 hx
          · have := (AP3.out g hg).2; omega))).cell (j := k) (by rw [RA.out.len]; exact hlt)
        cases hh3
        have hx3 : ah[k]'(by rw [RA.out.len]; exact hlt) = x := HX2.out ▸ (Dig.getD_get ah k (by rw [RA.out.len]; exact hlt)).symm
        rw [hx3] at dk3
        clear a3 m3 o3 BT A2 R2 O2 oG M2 hx3
        go_wp2_with fail
        go_roundw
        case rel => exact ⟨k + 1, by omega, by push_cast; rfl, Lib.hid (by rw [HN1.out]; exact A3.out.only (At.cell (At.refl G w3) k _) (fun hx => hG.1 hx.symm) (fun g hg hx => (NV.out g hg).2.2 hx)), Lib.hid (M3.out.only (At.cell (At.refl G w3) k _) (fun hx => hG.2.1 hx.symm) (fun hx => hG.2.2 hx.symm)), Lib.hid (by rw [← PS.out]; exact R3.out.set k _), Lib.hid (Only.set O3.out (p := ⟨G, k, none⟩) (.inr (by omega)) _)⟩
        case measure => simp [intOf]; omega
      · obtain rfl : k = 21 := by omega
        rw [Nat.sub_self, show List.replicate 0 (0 : Int) = [] from rfl, List.append_nil] at R2
        have RC := Lib.hid (Right_calls (Src.of_sl (Sl.row R2.out)) (by rw [hl]; decide))
        rw [hl] at RC
        clear hl
        go_wp2_with fail
        refine RC.out.mono ?_
        rintro e3 w3 ⟨rfl, he⟩
        subst w3
        have HG : w.heap.size ≤ G := by omega
        have OO : At d w wr := ⟨O2.out.os, O2.out.tape, O2.out.output, O2.out.size, fun i hi hn => O2.out.block i hi (fun hx => by
          rcases hx with hx | hx
          · exact hn hx
          · omega)⟩
        have OO := Lib.hid OO
        cases hr : rightB (dget s ah 21).2 with
        | true =>
          go_wp2_with fail
          go_ret2
          exact ⟨.inl ⟨hr, G, 21, rfl, HG, R2.out⟩, A2.out, OO.out⟩
        | false =>
          go_wp2_with fail
          go_ret2
          exact ⟨.inr ⟨hr, rfl⟩, A2.out, OO.out⟩
end Go.Proofs.Ytlbjoflmfboeeaa.Erg

/-
  The walks of slices.Equal at equal lists, and of law 10's ceilings; no condition but those told.
-/
set_option linter.unusedVariables false
set_option linter.unusedSimpArgs false
namespace Go.Proofs.Ytlbjoflmfboeeaa.Erg
open Go.RowKit Go.Proofs.Ytlbjoflmfboeeaa Go.Proofs.YtlbjoflmfboeeaaW.PrintWords

set_option maxRecDepth 100000 in
theorem Equal_same {w : World} {u u' : Value} {l : List Int} (s1 : Src w .i64 u l) (s2 : Src w .i64 u' l) (hl : l.length ≤ 1000000000) :
    Calls Try.prog 45 #[u, u'] w fun e w' => e = .returned (.bool true) ∧ ∃ n, w' = w.drewN n := by
  have S1 := Lib.hid s1
  have S2 := Lib.hid s2
  obtain ⟨A, c, rfl, _⟩ := s1
  obtain ⟨A', c', rfl, _⟩ := s2
  obtain ⟨n, hn⟩ : ∃ n, l.length = n := ⟨_, rfl⟩
  rw [hn] at S1 S2 hl ⊢
  have HN := Lib.hid hn
  clear hn
  go_enter Try.func45, Try.ntmps45
  go_wp2
  go_loopw [13] (fun i wr => ∃ k : Nat, k ≤ n ∧ i = .int .i64 (k : Int) ∧ ∃ q, wr = w.drewN q) (fun i _ => n - (intOf i).toNat)
  case atStart => exact ⟨0, by omega, rfl, 0, rfl⟩
  case round =>
    obtain ⟨k, hk, rfl, q, rfl⟩ := hrel
    by_cases hlt : k < n
    · obtain ⟨ad, rfl, d1⟩ := S1.out.cell (j := k) (by rw [HN.out]; exact hlt)
      obtain ⟨ad', rfl, d2⟩ := S2.out.cell (j := k) (by rw [HN.out]; exact hlt)
      have d1 : (w.drewN q).cell? (ad.add k) = _ := d1
      have d2 : (w.drewN q).cell? (ad'.add k) = _ := d2
      have ik : (k : Int) < (n : Int) := by omega
      generalize l[k]'(by rw [HN.out]; exact hlt) = x at *
      go_wp2
      go_quiet (fail)
      go_wp2
      go_roundw
      case rel => exact ⟨k + 1, by omega, by push_cast; rfl, q + nq, rfl⟩
      case measure => simp [intOf]; omega
    · obtain rfl : k = n := by omega
      go_wp2
      go_ret
      exact ⟨rfl, q, rfl⟩
/-- Right ceilings of any bytes. -/
def cf (bs : List Int) (i : Nat) : Int := if bs.length = 0 then 0 else bs.getD (i % bs.length) 0 % 27
def cl (bs : List Int) : List Int := fillTo (cf bs) 21 21
theorem cl_rt (bs : List Int) : Rt (cl bs) := by
  refine ⟨fillTo_len _ _ _, fun k hk => ?_⟩
  have h21 : k < 21 := by unfold cl at hk; rwa [fillTo_len] at hk
  have e : (cl bs)[k] = cf bs k := fillTo_all' (cf bs) 21 k h21
  show 0 ≤ (cl bs)[k]'hk ∧ (cl bs)[k]'hk ≤ 26
  generalize (cl bs)[k]'hk = y at *
  subst e
  unfold cf
  split <;> omega
set_option maxHeartbeats 1000000 in
set_option maxRecDepth 100000 in
theorem ceilings_calls {w : World} {u : Value} {bs : List Int} (src : Src w .u8 u bs) (hb : ∀ x ∈ bs, 0 ≤ x ∧ x ≤ 255) (hl : bs.length ≤ 1000000000) :
    Calls Try.prog 41 #[u] w fun e w' => e = .returned (.slice (some ⟨w.heap.size, 0, none⟩) 21 21) ∧ RowI w' 3 .i64 w.heap.size 21 (cl bs) ∧ Below w.heap.size w w' := by
  have hm : ∀ w : World, (Instr.makeSlice 54 (.int .i64 21) (.int .i64 21)).run Try.prog w = .ok (.slice (some ⟨w.heap.size, 0, none⟩) 21 21) (w.alloc (.cells (madeCells #[.int .i64 0] 21) 3)) := fun w => run_make_row' 54 3 (.int .i64 0) 8 Try.underlying54 (by kernel_rfl) rfl .i64 .i64 21 (by omega) (by omega) w
  have S := Lib.hid src
  have HB := Lib.hid hb
  obtain ⟨A, c, rfl, _⟩ := src
  obtain ⟨n, hn⟩ : ∃ n, bs.length = n := ⟨_, rfl⟩
  rw [hn] at S hl ⊢
  have HN := Lib.hid hn
  clear hn hb
  go_enter Try.func41, Try.ntmps41
  go_wp2_with fail
  go_loopw [8] (fun i wr => ∃ k : Nat, k ≤ 21 ∧ i = .int .i64 (k : Int) ∧ Hid (RowI wr 3 .i64 w.heap.size 21 (fillTo (cf bs) 21 k)) ∧ Hid (Below w.heap.size w wr)) (fun i _ => 21 - (intOf i).toNat)
  case atStart => exact ⟨0, by omega, rfl, Lib.hid (by rw [fillTo_zero]; exact RowI.new w _ _ 21 0 (by decide)), ((Below.refl _ _).alloc (Nat.le_refl _) _ : Below _ _ _)⟩
  case round =>
    obtain ⟨k, hk, rfl, HR, HBl⟩ := hrel
    by_cases hlt : k < 21
    · by_cases hz : 0 < n
      · have hkn : k % n < n := Nat.mod_lt _ hz
        obtain ⟨ad, rfl, d1⟩ := (Src.below S.out HBl.out).cell (j := k % n) (by rw [HN.out]; exact hkn)
        have bd := HB.out _ (List.getElem_mem (show k % n < bs.length by rw [HN.out]; exact hkn))
        have HV : Hid (cf bs k = bs[k % n]'(by rw [HN.out]; exact hkn) % 27) := Lib.hid (by
          have h2 := Dig.getD_get bs (k % n) (by rw [HN.out]; exact hkn)
          unfold cf
          rw [if_neg (by rw [HN.out]; omega), ← h2]
          congr 3)
        have HS := Lib.hid (fillTo_set (cf bs) 21 k)
        rw [HV.out] at HS
        have dk := HR.out.cell (i := k) (by rw [fillTo_len]; exact hlt)
        have fk := HR.out.free k
        generalize bs[k % n]'(by rw [HN.out]; exact hkn) = x at *
        generalize (fillTo (cf bs) 21 k)[k]'(by rw [fillTo_len]; exact hlt) = y at *
        obtain ⟨j, hj⟩ : ∃ j, k % n = j := ⟨_, rfl⟩
        rw [hj] at d1 hkn
        have e1 : Int.tmod (k : Int) (n : Int) = (j : Int) := by rw [← hj, Int.tmod_eq_emod_of_nonneg (by omega)]; exact (Int.natCast_emod k n).symm
        have e2 : (k : Int) % (n : Int) = (j : Int) := by rw [← hj]; exact (Int.natCast_emod k n).symm
        have z1 : (n : Int) ≠ 0 := by omega
        have z2 : ((n : Int) == 0) = false := by rw [beq_eq_false_iff_ne]; omega
        have w1 : IntKind.i64.wrap (j : Int) = (j : Int) := wrapI64 (by omega) (by omega)
        have ij : (j : Int) < (n : Int) := by omega
        have iz : (0 : Int) < (n : Int) := by omega
        clear hj
        go_wp2_with fail
        go_roundw
        case rel => exact ⟨k + 1, by omega, by push_cast; rfl, Lib.hid (by rw [← HS.out]; exact HR.out.set k _), (HBl.out.setCell (p := ⟨w.heap.size, k, none⟩) (Nat.le_refl _) _ : Below _ _ _)⟩
        case measure => simp [intOf]; omega
      · obtain rfl : n = 0 := by omega
        have HV : Hid (cf bs k = 0) := Lib.hid (by unfold cf; rw [if_pos HN.out])
        have HS := Lib.hid (fillTo_skip (cf bs) 21 k HV.out)
        go_wp2_with fail
        go_roundw
        case rel => exact ⟨k + 1, by omega, by push_cast; rfl, Lib.hid (by rw [← HS.out]; exact HR.out), HBl⟩
        case measure => simp [intOf]; omega
    · obtain rfl : k = 21 := by omega
      go_wp2_with fail
      go_ret
      exact ⟨rfl, HR.out, HBl.out⟩
end Go.Proofs.Ytlbjoflmfboeeaa.Erg

/-
  Law 10: ceilings put are got again (plain), and the walks of Put and Get over objects that lie apart; no condition but those told.
-/
set_option linter.unusedVariables false
set_option linter.unusedSimpArgs false
namespace Go.Proofs.Ytlbjoflmfboeeaa.Erg
open Go.RowKit Go.Proofs.Ytlbjoflmfboeeaa Go.Proofs.YtlbjoflmfboeeaaW.PrintWords Go.Proofs.Ytlbjoflmfboeeaa.Deco

theorem reput_back1 {R : Enc.RSt} (g : Enc.RGood R) {l ah bs : List Int} (hb : ∀ x ∈ bs, 0 ≤ x ∧ x ≤ 255) (k : Nat) (h : Inside bs (reput R l ah (k + 1))) : Inside bs (reput R l ah k) := by
  have g1 := (reput_good g l ah k).1
  unfold reput at h
  split at h
  · exact bits_back hb g1 _ 5 (by decide) h
  · exact sym_back hb g1 ap_good (dif_lt l ah k) h
theorem reput_back {R : Enc.RSt} (g : Enc.RGood R) {l ah bs : List Int} (hb : ∀ x ∈ bs, 0 ≤ x ∧ x ≤ 255) (n : Nat) (h : Inside bs (reput R l ah n)) (k : Nat) (hk : k ≤ n) : Inside bs (reput R l ah k) := by
  obtain ⟨j, rfl⟩ : ∃ j, n = k + j := ⟨n - k, by omega⟩
  clear hk
  induction j with
  | zero => exact h
  | succ j ih => exact ih (reput_back1 g hb (k + j) h)
theorem reput_zero (R : Enc.RSt) (l ah : List Int) : reput R l ah 0 = R := rfl
theorem openS_bs (bs : List Int) : (openS bs).bs = bs := rfl
theorem openS_n (bs : List Int) : (openS bs).n = 4 := rfl
/-- What was put is got. -/
theorem dget_rel {d : DSt} {R : Enc.RSt} (h : DRel d R) (g : Enc.RGood R) {l ah : List Int} (rl : Rt l) (ra : ah.length = 0 ∨ Rt ah) (hb : ∀ x ∈ d.bs, 0 ≤ x ∧ x ≤ 255) (hi : Inside d.bs (reput R l ah 21)) (k : Nat) (hk : k ≤ 21) :
    DRel (dget d ah k).1 (reput R l ah k) ∧ (dget d ah k).2 = l.take k ∧ (dget d ah k).1.bs = d.bs := by
  induction k with
  | zero => exact ⟨h, by simp [dget], rfl⟩
  | succ k ih =>
    obtain ⟨h1, h2, h3⟩ := ih (by omega)
    have g1 := (reput_good g l ah k).1
    have i1 := reput_back g hb 21 hi (k + 1) hk
    have hl : k < l.length := by rw [rl.len]; omega
    have ht : l.take (k + 1) = l.take k ++ [l.getD k 0] := by rw [List.take_succ_eq_append_getElem hl, Dig.getD_get l k hl]
    have bl := rl.getD k
    rw [ht]
    unfold reput at i1
    unfold reput dget
    split
    · rename_i h0
      rw [if_pos h0] at i1
      have e := bits_inv (w := 5) h1 g1 bl.1 (Int.lt_of_le_of_lt bl.2 (by decide)) (by decide) (by rw [h3]; exact hb) (by rw [h3]; exact i1)
      exact ⟨e.2.1, by rw [h2, e.1], by rw [e.2.2, h3]⟩
    · rename_i h0
      rw [if_neg h0] at i1
      have ba := (show Rt ah by rcases ra with r | r; exact absurd r h0; exact r).getD k
      have e := sym_inv h1 g1 ap_good (dif_lt l ah k) (by rw [h3]; exact hb) (by rw [h3]; exact i1)
      refine ⟨e.2.1, ?_, by rw [e.2.2, h3]⟩
      rw [h2, e.1]
      have e2 : (ah.getD k 0 + (dif l ah k : Int)) % 32 = l.getD k 0 := by unfold dif; omega
      rw [e2]
section
variable {W w : World} {L : List Ast}
/-- Ceilings put by themselves. -/
theorem Put1_h {e : Nat} {s : Enc.St} {t : TypeId} {g cap : Nat} {l : List Int} (H : Hp W w (encA e s :: rowA t .i64 g cap l :: L)) (ok : s.Ready) (small : s.k ≤ 700000000) (rl : Rt l) :
    Calls Try.prog 42 #[.pointer (some ⟨e, 0, none⟩), .slice (some ⟨g, 0, none⟩) 21 cap, .slice none 0 0] w fun en w' => en = .returned (.int .i64 0) ∧ Hp W w' (encA e (eput s l [] 21) :: rowA t .i64 g cap l :: L) := by
  obtain ⟨_, _, ⟨v, i, rfl⟩, ⟨r, rfl⟩, g1, g2, ne, K⟩ := H.open1r
  have sr := Src.of_sl (Sl.row r)
  rw [rl.len] at sr
  refine (Put_yes i ok small sr rl (Src.of_sl (Sl.nil w 3 .i64)) (.inl rfl) (fun g' hg => ?_) (fun h => absurd h (by decide))).mono ?_
  · have hg : some g = some g' := hg
    injection hg with hg
    subst hg
    exact ⟨fun x => ne g rfl (.inl x), fun x => ne g rfl (.inr x), (g2 g rfl).2⟩
  · rintro en w' ⟨v', rfl, a, t⟩
    exact ⟨rfl, Enc.step_h (s := s) K a t⟩
/-- Ceilings put by others. -/
theorem Put2_h {e : Nat} {s : Enc.St} {t : TypeId} {g cap ga ca : Nat} {l ah : List Int} (H : Hp W w (encA e s :: rowA t .i64 g cap l :: rowA t .i64 ga ca ah :: L)) (ok : s.Ready) (small : s.k ≤ 700000000) (rl : Rt l) (ra : Rt ah) :
    Calls Try.prog 42 #[.pointer (some ⟨e, 0, none⟩), .slice (some ⟨g, 0, none⟩) 21 cap, .slice (some ⟨ga, 0, none⟩) 21 ca] w fun en w' => en = .returned (.int .i64 0) ∧ Hp W w' (encA e (eput s l ah 21) :: rowA t .i64 g cap l :: rowA t .i64 ga ca ah :: L) := by
  obtain ⟨_, _, _, ⟨v, i, rfl⟩, ⟨r, rfl⟩, ⟨r2, rfl⟩, g1, g2, g3, ne, ne2, _, K⟩ := H.open1rr
  have sr := Src.of_sl (Sl.row r)
  have sr2 := Src.of_sl (Sl.row r2)
  rw [rl.len] at sr
  rw [ra.len] at sr2
  refine (Put_yes i ok small sr rl sr2 (.inr ra) (fun g' hg => ?_) (fun _ g' hg => ?_)).mono ?_
  · have hg : some g = some g' := hg
    injection hg with hg
    subst hg
    exact ⟨fun x => ne g rfl (.inl x), fun x => ne g rfl (.inr x), (g2 g rfl).2⟩
  · have hg : some ga = some g' := hg
    injection hg with hg
    subst hg
    exact ⟨fun x => ne2 ga rfl (.inl x), fun x => ne2 ga rfl (.inr x), (g3 ga rfl).2⟩
  · rintro en w' ⟨v', rfl, a, t⟩
    exact ⟨rfl, Enc.step_h (s := s) K a t⟩
theorem RPut1_h {e : Nat} {R : Enc.RSt} {t : TypeId} {g cap : Nat} {l : List Int} (H : Hp W w (rencA e R :: rowA t .i64 g cap l :: L)) (ok : Enc.RGood R) (small : R.K ≤ 700000000) (rl : Rt l) :
    Calls Try.prog 43 #[.pointer (some ⟨e, 0, none⟩), .slice (some ⟨g, 0, none⟩) 21 cap, .slice none 0 0] w fun en w' => en = .returned (.tuple #[]) ∧ Hp W w' (rencA e (reput R l [] 21) :: rowA t .i64 g cap l :: L) := by
  obtain ⟨_, _, ⟨ge, ce, i, rfl⟩, ⟨r, rfl⟩, g1, g2, ne, K⟩ := H.open1r
  have sr := Src.of_sl (Sl.row r)
  rw [rl.len] at sr
  refine (RPut_yes i ok small sr rl (Src.of_sl (Sl.nil w 3 .i64)) (.inl rfl) (fun g' hg => ?_) (fun h => absurd h (by decide))).mono ?_
  · have hg : some g = some g' := hg
    injection hg with hg
    subst hg
    exact ⟨fun x => ne g rfl (.inl x), fun x => ne g rfl (.inr x), (g2 g rfl).2⟩
  · rintro en w' ⟨g', c', rfl, a, t⟩
    exact ⟨rfl, K (A1' := rencA e _) t.only ⟨g', c', a, rfl⟩ (fun k hk => by
      rcases hk with hk | hk
      · exact .inl (.inl hk)
      · subst hk
        exact t.own.imp .inr id)⟩
theorem RPut2_h {e : Nat} {R : Enc.RSt} {t : TypeId} {g cap ga ca : Nat} {l ah : List Int} (H : Hp W w (rencA e R :: rowA t .i64 g cap l :: rowA t .i64 ga ca ah :: L)) (ok : Enc.RGood R) (small : R.K ≤ 700000000) (rl : Rt l) (ra : Rt ah) :
    Calls Try.prog 43 #[.pointer (some ⟨e, 0, none⟩), .slice (some ⟨g, 0, none⟩) 21 cap, .slice (some ⟨ga, 0, none⟩) 21 ca] w fun en w' => en = .returned (.tuple #[]) ∧ Hp W w' (rencA e (reput R l ah 21) :: rowA t .i64 g cap l :: rowA t .i64 ga ca ah :: L) := by
  obtain ⟨_, _, _, ⟨ge, ce, i, rfl⟩, ⟨r, rfl⟩, ⟨r2, rfl⟩, g1, g2, g3, ne, ne2, _, K⟩ := H.open1rr
  have sr := Src.of_sl (Sl.row r)
  have sr2 := Src.of_sl (Sl.row r2)
  rw [rl.len] at sr
  rw [ra.len] at sr2
  refine (RPut_yes i ok small sr rl sr2 (.inr ra) (fun g' hg => ?_) (fun _ g' hg => ?_)).mono ?_
  · have hg : some g = some g' := hg
    injection hg with hg
    subst hg
    exact ⟨fun x => ne g rfl (.inl x), fun x => ne g rfl (.inr x), (g2 g rfl).2⟩
  · have hg : some ga = some g' := hg
    injection hg with hg
    subst hg
    exact ⟨fun x => ne2 ga rfl (.inl x), fun x => ne2 ga rfl (.inr x), (g3 ga rfl).2⟩
  · rintro en w' ⟨g', c', rfl, a, t⟩
    exact ⟨rfl, K (A1' := rencA e _) t.only ⟨g', c', a, rfl⟩ (fun k hk => by
      rcases hk with hk | hk
      · exact .inl (.inl hk)
      · subst hk
        exact t.own.imp .inr id)⟩
/-- Ceilings got by themselves. -/
theorem Get1_h {d : Nat} {s : DSt} (H : Hp W w (pdecA d s :: L)) (ok : s.Ready) (hn : s.n ≤ 700000000000) (hr : rightB (dget s [] 21).2 = true) :
    Calls Try.prog 44 #[.pointer (some ⟨d, 0, none⟩), .slice none 0 0] w fun en w' => ∃ g cap, en = .returned (.tuple #[.slice (some ⟨g, 0, none⟩) 21 cap, .int .i64 0]) ∧ Hp W w' (rowA 3 .i64 g cap (dget s [] 21).2 :: pdecA d (dget s [] 21).1 :: L) := by
  obtain ⟨_, ⟨v, i, rfl⟩, gd, K⟩ := H.open1
  refine (Get_yes i ok hn (Src.of_sl (Sl.nil w 3 .i64)) (.inl rfl) (fun h => absurd h (by decide))).mono ?_
  rintro en w' ⟨h1, a, o⟩
  rcases h1 with ⟨_, g, cap, rfl, hg, r⟩ | ⟨h1, _⟩
  · exact ⟨g, cap, rfl, Hp.apart (K (A' := Ast.both (rowA 3 .i64 g cap _) (pdecA d _)) (o.mono fun k hk => .inl hk) ⟨_, _, ⟨r, rfl⟩, ⟨v, a, rfl⟩, fun k hk e => by
      have e : k = g := e
      have := gd k hk
      omega, rfl⟩ (fun k hk => by
      rcases hk with hk | hk
      · have hk : k = g := hk
        right; omega
      · exact .inl hk))⟩
  · rw [hr] at h1; cases h1
/-- Ceilings got by others. -/
theorem Get2_h {d : Nat} {s : DSt} {t : TypeId} {ga ca : Nat} {ah : List Int} (H : Hp W w (pdecA d s :: rowA t .i64 ga ca ah :: L)) (ok : s.Ready) (hn : s.n ≤ 700000000000) (ra : Rt ah) (hr : rightB (dget s ah 21).2 = true) :
    Calls Try.prog 44 #[.pointer (some ⟨d, 0, none⟩), .slice (some ⟨ga, 0, none⟩) 21 ca] w fun en w' => ∃ g cap, en = .returned (.tuple #[.slice (some ⟨g, 0, none⟩) 21 cap, .int .i64 0]) ∧ Hp W w' (rowA 3 .i64 g cap (dget s ah 21).2 :: pdecA d (dget s ah 21).1 :: rowA t .i64 ga ca ah :: L) := by
  obtain ⟨_, _, ⟨v, i, rfl⟩, ⟨r2, rfl⟩, gd, g2, ne, K⟩ := H.open1r
  have sr2 := Src.of_sl (Sl.row r2)
  rw [ra.len] at sr2
  refine (Get_yes i ok hn sr2 (.inr ra) (fun h g hg => ?_)).mono ?_
  · have hg : some ga = some g := hg
    injection hg with hg
    subst hg
    exact ⟨fun x => ne ga rfl (.inl x), (g2 ga rfl).2⟩
  rintro en w' ⟨h1, a, o⟩
  rcases h1 with ⟨_, g, cap, rfl, hg, r⟩ | ⟨h1, _⟩
  · exact ⟨g, cap, rfl, Hp.apart (K (A1' := Ast.both (rowA 3 .i64 g cap _) (pdecA d _)) (o.mono fun k hk => .inl hk) ⟨_, _, ⟨r, rfl⟩, ⟨v, a, rfl⟩, fun k hk e => by
      have e : k = g := e
      have := gd k hk
      omega, rfl⟩ (fun k hk => by
      rcases hk with hk | hk
      · have hk : k = g := hk
        right; omega
      · exact .inl hk))⟩
  · rw [hr] at h1; cases h1
theorem ceilings_h (H : Hp W w L) {u : Value} {bs : List Int} (src : Src w .u8 u bs) (hb : ∀ x ∈ bs, 0 ≤ x ∧ x ≤ 255) (hl : bs.length ≤ 1000000000) :
    Calls Try.prog 41 #[u] w fun en w' => ∃ g, en = .returned (.slice (some ⟨g, 0, none⟩) 21 21) ∧ Hp W w' (rowA 3 .i64 g 21 (cl bs) :: L) := by
  refine (ceilings_calls src hb hl).mono ?_
  rintro en w' ⟨rfl, r, b⟩
  exact ⟨_, rfl, H.add_row b r (Nat.le_refl _)⟩
end
end Go.Proofs.Ytlbjoflmfboeeaa.Erg

/-
  Lines as bytes, plainly: what is put, and what is got. Plain theorems; no condition but those told.
-/
set_option linter.unusedVariables false
set_option linter.unusedSimpArgs false
namespace Go.Proofs.Ytlbjoflmfboeeaa.Qnt
open Go.RowKit Go.Proofs.Ytlbjoflmfboeeaa Go.Proofs.YtlbjoflmfboeeaaW.PrintWords Go.Proofs.Ytlbjoflmfboeeaa.Deco Go.Proofs.Ytlbjoflmfboeeaa.Ceil

/-- How many bits a number has, without its sign. -/
def cls (n : Int) : Nat := if n = 0 then 0 else n.natAbs.log2 + 1
theorem cls_zero (n : Int) : cls n = 0 ↔ n = 0 := by
  unfold cls; split <;> simp_all
theorem cls_spec {n : Int} (h : n ≠ 0) : 1 ≤ cls n ∧ 2 ^ (cls n - 1) ≤ n.natAbs ∧ n.natAbs < 2 ^ cls n := by
  unfold cls
  rw [if_neg h]
  exact ⟨by omega, Nat.log2_self_le (by omega), Nat.lt_log2_self⟩
theorem cls_le {n : Int} {k : Nat} (h : n.natAbs < 2 ^ k) : cls n ≤ k := by
  unfold cls
  split
  · omega
  · have := (Nat.log2_lt (n := n.natAbs) (k := k) (by omega)).2 h
    omega
/-- What is below the highest bit, and the sign. -/
def low (n : Int) : Int := ((n.natAbs - 2 ^ (cls n - 1) : Nat) : Int)
def sgn (n : Int) : Int := if n < 0 then 1 else 0
theorem pow_cast (k : Nat) : ((2 ^ k : Nat) : Int) = 2 ^ k := by rw [Int.natCast_pow]; rfl
theorem low_bd {n : Int} (h : n ≠ 0) : 0 ≤ low n ∧ low n < 2 ^ (cls n - 1) ∧ (n.natAbs : Int) = low n + 2 ^ (cls n - 1) := by
  obtain ⟨h1, h2, h3⟩ := cls_spec h
  obtain ⟨k, hk⟩ : ∃ k, cls n = k + 1 := ⟨cls n - 1, by omega⟩
  unfold low
  rw [hk] at h2 h3 ⊢
  rw [Nat.add_sub_cancel] at h2 ⊢
  rw [Nat.pow_succ] at h3
  have := pow_cast k
  omega
theorem sgn_bd (n : Int) : 0 ≤ sgn n ∧ sgn n < 2 ^ 1 := by unfold sgn; split <;> decide
def qput (P : Enc.St × List Int) (n : Int) : Enc.St × List Int :=
  (if n = 0 then Enc.symS P.1 P.2 (cls n) else Enc.bitsS (Enc.bitsS (Enc.symS P.1 P.2 (cls n)) (sgn n) 1) (low n) (cls n - 1), Mdl.next false P.2 (cls n))
def rqput (P : Enc.RSt × List Int) (n : Int) : Enc.RSt × List Int :=
  (if n = 0 then Enc.rsymS P.1 P.2 (cls n) else Enc.rbitsS (Enc.rbitsS (Enc.rsymS P.1 P.2 (cls n)) (sgn n) 1) (low n) (cls n - 1), Mdl.next false P.2 (cls n))
structure Fine (P : Enc.St × List Int) : Prop where
  r : P.1.Ready
  g : Mdl.Good P.2
  len : P.2.length = 13
structure RFine (P : Enc.RSt × List Int) : Prop where
  r : Enc.RGood P.1
  g : Mdl.Good P.2
  len : P.2.length = 13
theorem next_fine {L : List Int} (g : Mdl.Good L) (h : L.length = 13) {k : Nat} (hk : k ≤ 12) : Mdl.Good (Mdl.next false L k) ∧ (Mdl.next false L k).length = 13 :=
  ⟨g.next false k (by omega), by rw [Mdl.next_len, h]⟩
theorem qput_fine {P : Enc.St × List Int} (f : Fine P) {n : Int} (hn : cls n ≤ 12) : Fine (qput P n) ∧ (qput P n).1.k ≤ P.1.k + 10 := by
  have h1 := Enc.symS_ready f.r f.g (k := cls n) (by rw [f.len]; omega)
  have h2 := next_fine f.g f.len hn
  unfold qput
  split
  · exact ⟨⟨h1.1, h2.1, h2.2⟩, by have := h1.2.2; simp only; omega⟩
  · have h3 := Enc.bitsS_ready h1.1 (sgn n) 1 (by decide)
    have h4 := Enc.bitsS_ready h3.1 (low n) (cls n - 1) (by omega)
    exact ⟨⟨h4.1, h2.1, h2.2⟩, by have := h1.2.2; have := h3.2.2; have := h4.2.2; simp only; omega⟩
theorem rqput_fine {P : Enc.RSt × List Int} (f : RFine P) {n : Int} (hn : cls n ≤ 12) : RFine (rqput P n) ∧ (rqput P n).1.K ≤ P.1.K + 10 := by
  have h1 := Enc.rsymS_good f.r f.g (k := cls n) (by rw [f.len]; omega)
  have h2 := next_fine f.g f.len hn
  unfold rqput
  split
  · exact ⟨⟨h1.1, h2.1, h2.2⟩, by have := h1.2.2; simp only; omega⟩
  · have h3 := Enc.rbitsS_good h1.1 (sgn n) 1 (by decide)
    have h4 := Enc.rbitsS_good h3.1 (low n) (cls n - 1) (by omega)
    exact ⟨⟨h4.1, h2.1, h2.2⟩, by have := h1.2.2; have := h3.2.2; have := h4.2.2; simp only; omega⟩
theorem qput_rel {P : Enc.St × List Int} {Q : Enc.RSt × List Int} (f : RFine Q) (h : Enc.Rel P.1 Q.1) (e : P.2 = Q.2) {n : Int} (hn : cls n ≤ 12) : Enc.Rel (qput P n).1 (rqput Q n).1 ∧ (qput P n).2 = (rqput Q n).2 := by
  have g1 := Enc.rsymS_good f.r f.g (k := cls n) (by rw [f.len]; omega)
  unfold qput rqput
  rw [e]
  refine ⟨?_, rfl⟩
  have h1 := Enc.symS_rel h f.r f.g (k := cls n) (by rw [f.len]; omega)
  simp only
  split
  · exact h1
  · exact Enc.bitsS_rel (Enc.bitsS_rel h1 g1.1 _ 1 (by decide)) (Enc.rbitsS_good g1.1 _ 1 (by decide)).1 _ _ (by omega)
theorem bits12 {s : DSt} (ok : s.Ready) (w : Nat) (hw : w ≤ 12) : 0 ≤ (bitsD s 0 w).1 ∧ (bitsD s 0 w).1 < 2 ^ w := by
  have hp := pw_pos w
  by_cases h0 : w = 0
  · subst h0
    have e : (bitsD s 0 0).1 = 0 := by unfold bitsD; rfl
    rw [e]
    exact ⟨Int.le_refl _, by decide⟩
  · unfold bitsD
    rw [if_neg h0, if_pos hw]
    have hle : (2 : Int) ^ w ≤ 2 ^ 12 := pw_le hw
    have e : (2 : Int) ^ 12 = 4096 := by decide
    have := at_bd ok (al := 2 ^ w) (by omega) (by omega)
    simp only
    omega
/-- A number got, of so many bits at most. -/
def gOne (P : DSt × List Int) (w : Nat) : Option (Int × (DSt × List Int)) :=
  if w < symK P.1 P.2 then none
  else if symK P.1 P.2 = 0 then some (0, (symS P.1 P.2, Mdl.next false P.2 (symK P.1 P.2)))
  else some ((if (bitsD (symS P.1 P.2) 0 1).1 = 1 then -((bitsD (bitsD (symS P.1 P.2) 0 1).2 0 (symK P.1 P.2 - 1)).1 + 2 ^ (symK P.1 P.2 - 1)) else (bitsD (bitsD (symS P.1 P.2) 0 1).2 0 (symK P.1 P.2 - 1)).1 + 2 ^ (symK P.1 P.2 - 1)),
    ((bitsD (bitsD (symS P.1 P.2) 0 1).2 0 (symK P.1 P.2 - 1)).2, Mdl.next false P.2 (symK P.1 P.2)))
structure DFine (P : DSt × List Int) : Prop where
  r : P.1.Ready
  g : Mdl.Good P.2
  len : P.2.length = 13
theorem sym13 {P : DSt × List Int} (f : DFine P) : symK P.1 P.2 ≤ 12 := by
  have := sym_lt (s := P.1) f.g
  rw [f.len] at this; omega
theorem gOne_fine {P : DSt × List Int} (f : DFine P) {w : Nat} {n : Int} {P' : DSt × List Int} (h : gOne P w = some (n, P')) : DFine P' ∧ P'.1.n ≤ P.1.n + 10 ∧ P'.1.bs = P.1.bs ∧ -(2 ^ w) < n ∧ n < 2 ^ w := by
  have hk := sym13 f
  have h1 := sym_ready f.r f.g
  have h2 := next_fine f.g f.len hk
  unfold gOne at h
  by_cases hw : w < symK P.1 P.2
  · rw [if_pos hw] at h; cases h
  rw [if_neg hw] at h
  have hp : (0 : Int) < 2 ^ w := pw_pos w
  by_cases h0 : symK P.1 P.2 = 0
  · rw [if_pos h0] at h
    injection h with h
    injection h with e1 e2
    subst e1 e2
    exact ⟨⟨h1.1, h2.1, h2.2⟩, by have := h1.2.2.2; simp only; omega, h1.2.1, by omega, hp⟩
  · rw [if_neg h0] at h
    have h3 := bits_ready h1.1 0 1 (by decide)
    have h4 := bits_ready h3.1 0 (symK P.1 P.2 - 1) (by omega)
    have b4 := bits12 h3.1 (symK P.1 P.2 - 1) (by omega)
    have hle : (2 : Int) ^ (symK P.1 P.2 - 1 + 1) ≤ 2 ^ w := pw_le (by omega)
    rw [pw_succ] at hle
    injection h with h
    injection h with e1 e2
    subst e1 e2
    refine ⟨⟨h4.1, h2.1, h2.2⟩, by have := h1.2.2.2; have := h3.2.2.2; have := h4.2.2.2; simp only; omega, by rw [h4.2.1, h3.2.1, h1.2.1], ?_⟩
    split <;> omega
/-- What was put is got. -/
theorem gOne_inv {P : DSt × List Int} {Q : Enc.RSt × List Int} (f : RFine Q) (h : DRel P.1 Q.1) (e : P.2 = Q.2) {n : Int} {w : Nat} (hn : cls n ≤ w) (hw : w ≤ 12) (hb : ∀ x ∈ P.1.bs, 0 ≤ x ∧ x ≤ 255) (hi : Inside P.1.bs (rqput Q n).1) :
    ∃ P', gOne P w = some (n, P') ∧ DRel P'.1 (rqput Q n).1 ∧ P'.2 = (rqput Q n).2 ∧ P'.1.bs = P.1.bs := by
  have hl : cls n < Q.2.length := by rw [f.len]; omega
  have g1 := (Enc.rsymS_good f.r f.g hl).1
  have g2 := (Enc.rbitsS_good g1 (sgn n) 1 (by decide)).1
  unfold rqput at hi ⊢
  unfold gOne
  rw [e]
  by_cases h0 : n = 0
  · rw [if_pos h0] at hi ⊢
    have s := sym_inv h f.r f.g hl hb hi
    rw [s.1, if_neg (by omega), if_pos ((cls_zero n).2 h0)]
    subst h0
    exact ⟨_, rfl, s.2.1, rfl, s.2.2⟩
  · rw [if_neg h0] at hi ⊢
    have c0 : cls n ≠ 0 := fun x => h0 ((cls_zero n).1 x)
    have i2 := bits_back hb g2 _ _ (by omega) hi
    have i1 := bits_back hb g1 _ 1 (by decide) i2
    have s := sym_inv h f.r f.g hl hb i1
    rw [s.1, if_neg (by omega), if_neg c0]
    have sb := sgn_bd n
    have lb := low_bd h0
    have t := bits_inv (w := 1) s.2.1 g1 sb.1 sb.2 (by decide) (by rw [s.2.2]; exact hb) (by rw [s.2.2]; exact i2)
    have u := bits_inv (w := cls n - 1) t.2.1 g2 lb.1 lb.2.1 (by omega) (by rw [t.2.2, s.2.2]; exact hb) (by rw [t.2.2, s.2.2]; exact hi)
    rw [t.1, u.1]
    refine ⟨((bitsD (bitsD (symS P.1 Q.2) 0 1).2 0 (cls n - 1)).2, Mdl.next false Q.2 (cls n)), ?_, u.2.1, rfl, by rw [u.2.2, t.2.2, s.2.2]⟩
    congr 2
    rw [← lb.2.2]
    unfold sgn
    split
    · rw [if_pos rfl]; omega
    · rw [if_neg (by decide)]; omega
theorem rqput_back {Q : Enc.RSt × List Int} (f : RFine Q) {n : Int} (hn : cls n ≤ 12) {bs : List Int} (hb : ∀ x ∈ bs, 0 ≤ x ∧ x ≤ 255) (hi : Inside bs (rqput Q n).1) : Inside bs Q.1 := by
  have hl : cls n < Q.2.length := by rw [f.len]; omega
  have g1 := (Enc.rsymS_good f.r f.g hl).1
  have g2 := (Enc.rbitsS_good g1 (sgn n) 1 (by decide)).1
  unfold rqput at hi
  simp only at hi
  split at hi
  · exact sym_back hb f.r f.g hl hi
  · exact sym_back hb f.r f.g hl (bits_back hb g1 _ 1 (by decide) (bits_back hb g2 _ _ (by omega) hi))
/-- n divided by 2^by to the nearest, held between the bounds of so many bits. -/
def nearV (x : Int) (s w : Nat) : Int := min (max (rnd x s) (-(2 ^ w - 1))) (2 ^ w - 1)
theorem nearV_bd (x : Int) (s w : Nat) : -(2 ^ w) < nearV x s w ∧ nearV x s w < 2 ^ w := by
  have := pw_pos w
  unfold nearV; omega
theorem nearV_cls (x : Int) (s w : Nat) : cls (nearV x s w) ≤ w := by
  have h := nearV_bd x s w
  have := pow_cast w
  exact cls_le (by omega)
/-- The band of a line, and what a list tells of it. -/
def bnd (i : Nat) : Nat := (Bno.bandOf (i : Int)).toNat
def cB (c : List Int) (i : Nat) : Int := c.getD (bnd i) 0
theorem bnd_spec {i : Nat} (h : i < 512) : bnd i < 21 ∧ Bno.bandOf (i : Int) = bnd i ∧ Bno.el (bnd i) ≤ i ∧ (i : Int) < Bno.el (bnd i + 1) := by
  obtain ⟨n, h1, h2, h3, h4⟩ := Bno.band_spec (i : Int) (by omega) (by omega)
  have e : bnd i = n := by unfold bnd; rw [h2]; simp
  rw [e]
  exact ⟨h1, h2, h3, h4⟩
/-- Ceilings and steps that may be. -/
structure Plan (c s : List Int) : Prop where
  hc : Erg.Rt c
  hs : Erg.Rt s
  d : ∀ k, k < 21 → (List.getD c k 0 : Int) - List.getD s k 0 ≤ 12
theorem Plan.at {c s : List Int} (p : Plan c s) {i : Nat} (h : i < 512) : (0 ≤ cB c i ∧ cB c i ≤ 26) ∧ (0 ≤ cB s i ∧ cB s i ≤ 26) ∧ cB c i - cB s i ≤ 12 := ⟨p.hc.getD _, p.hs.getD _, p.d _ (bnd_spec h).1⟩
/-- A line's number of steps, if it is told. -/
def itm (c s x : List Int) (i : Nat) : Option Int := if cB s i < cB c i then some (nearV (x.getD i 0) (cB s i).toNat (cB c i - cB s i).toNat) else none
def qrun (I : Nat → Option Int) (P : Enc.St × List Int) : Nat → Enc.St × List Int
  | 0 => P
  | j + 1 => match I j with
    | none => qrun I P j
    | some q => qput (qrun I P j) q
def rqrun (I : Nat → Option Int) (P : Enc.RSt × List Int) : Nat → Enc.RSt × List Int
  | 0 => P
  | j + 1 => match I j with
    | none => rqrun I P j
    | some q => rqput (rqrun I P j) q
theorem itm_cls {c s x : List Int} (p : Plan c s) {i : Nat} (h : i < 512) {q : Int} (e : itm c s x i = some q) : cls q ≤ (cB c i - cB s i).toNat ∧ cls q ≤ 12 := by
  unfold itm at e
  split at e
  · injection e with e
    subst e
    have := nearV_cls (x.getD i 0) (cB s i).toNat (cB c i - cB s i).toNat
    have := (p.at h).2.2
    omega
  · cases e
theorem qrun_fine {c s x : List Int} (p : Plan c s) {P : Enc.St × List Int} (f : Fine P) (j : Nat) (hj : j ≤ 512) : Fine (qrun (itm c s x) P j) ∧ (qrun (itm c s x) P j).1.k ≤ P.1.k + 10 * j := by
  induction j with
  | zero => exact ⟨f, Nat.le_refl _⟩
  | succ j ih =>
    have h := ih (by omega)
    unfold qrun
    cases e : itm c s x j with
    | none => exact ⟨h.1, by simp only; omega⟩
    | some q => have := qput_fine h.1 (itm_cls p (by omega) e).2; exact ⟨this.1, by simp only; omega⟩
theorem rqrun_fine {c s x : List Int} (p : Plan c s) {P : Enc.RSt × List Int} (f : RFine P) (j : Nat) (hj : j ≤ 512) : RFine (rqrun (itm c s x) P j) ∧ (rqrun (itm c s x) P j).1.K ≤ P.1.K + 10 * j := by
  induction j with
  | zero => exact ⟨f, Nat.le_refl _⟩
  | succ j ih =>
    have h := ih (by omega)
    unfold rqrun
    cases e : itm c s x j with
    | none => exact ⟨h.1, by simp only; omega⟩
    | some q => have := rqput_fine h.1 (itm_cls p (by omega) e).2; exact ⟨this.1, by simp only; omega⟩
theorem qrun_rel {c s x : List Int} (p : Plan c s) {P : Enc.St × List Int} {Q : Enc.RSt × List Int} (f : RFine Q) (h : Enc.Rel P.1 Q.1) (e : P.2 = Q.2) (j : Nat) (hj : j ≤ 512) : Enc.Rel (qrun (itm c s x) P j).1 (rqrun (itm c s x) Q j).1 ∧ (qrun (itm c s x) P j).2 = (rqrun (itm c s x) Q j).2 := by
  induction j with
  | zero => exact ⟨h, e⟩
  | succ j ih =>
    have h := ih (by omega)
    unfold qrun rqrun
    cases e : itm c s x j with
    | none => exact h
    | some q => exact qput_rel (rqrun_fine p f j (by omega)).1 h.1 h.2 (itm_cls p (by omega) e).2
theorem rqrun_back {c s x : List Int} (p : Plan c s) {Q : Enc.RSt × List Int} (f : RFine Q) {bs : List Int} (hb : ∀ x ∈ bs, 0 ≤ x ∧ x ≤ 255) (n : Nat) (hn : n ≤ 512) (hi : Inside bs (rqrun (itm c s x) Q n).1) (k : Nat) (hk : k ≤ n) : Inside bs (rqrun (itm c s x) Q k).1 := by
  obtain ⟨j, rfl⟩ : ∃ j, n = k + j := ⟨n - k, by omega⟩
  clear hk
  induction j with
  | zero => exact hi
  | succ j ih =>
    refine ih (by omega) ?_
    have hi : Inside bs (rqrun (itm c s x) Q (k + j + 1)).1 := hi
    unfold rqrun at hi
    cases e : itm c s x (k + j) with
    | none => rw [e] at hi; exact hi
    | some q =>
      rw [e] at hi
      exact rqput_back (rqrun_fine p f (k + j) (by omega)).1 (itm_cls p (by omega) e).2 hb hi
/-- Noise. -/
def nzb (seed line : Int) : Int := (seed * 2654435761 % 4294967296 + line % 4294967296 * 40503 % 4294967296) % 4294967296
def nzc (seed line : Int) : Int := ((nzb seed line + 12345) % 4294967296 * 1664525) % 4294967296 / 2147483648
def nz (seed line n : Int) : Int := if n < 3 ∨ 26 < n then 0 else if nzc seed line = 1 then -(2 ^ (n - 2).toNat) else 2 ^ (n - 2).toNat
theorem nz_bd (seed line n : Int) : -67108864 ≤ nz seed line n ∧ nz seed line n ≤ 67108864 := by
  unfold nz
  split
  · decide
  · rename_i h
    have h1 := pw_pos (n - 2).toNat
    have h2 : (2 : Int) ^ (n - 2).toNat ≤ 2 ^ 26 := pw_le (by omega)
    have e : (2 : Int) ^ 26 = 67108864 := by decide
    rw [e] at h2
    split <;> omega
/-- What is heard of a line. -/
def hv (c s x : List Int) (seed : Int) (i : Nat) : Int := match itm c s x i with
  | some q => q * 2 ^ (cB s i).toNat
  | none => nz seed i (cB c i)
/-- The lines got. -/
def gRun (c s : List Int) (seed : Int) (P : DSt × List Int) : Nat → Option (List Int × (DSt × List Int))
  | 0 => some ([], P)
  | j + 1 => (gRun c s seed P j).bind fun Q => if cB s j < cB c j then (gOne Q.2 (cB c j - cB s j).toNat).map fun r => (Q.1 ++ [r.1 * 2 ^ (cB s j).toNat], r.2) else some (Q.1 ++ [nz seed j (cB c j)], Q.2)
theorem shift_bd {n : Int} {w s c : Nat} (h0 : -(2 ^ w) < n) (h1 : n < 2 ^ w) (h : w + s ≤ c) (hc : c ≤ 26) : -67108864 ≤ n * 2 ^ s ∧ n * 2 ^ s ≤ 67108864 := by
  have hp := pw_pos s
  have e : (2 : Int) ^ w * 2 ^ s ≤ 67108864 := by
    rw [← Int.pow_add]
    have h26 : (2 : Int) ^ (w + s) ≤ 2 ^ 26 := pw_le (by omega)
    exact h26
  have a1 : n * 2 ^ s ≤ 2 ^ w * 2 ^ s := Int.mul_le_mul_of_nonneg_right (by omega) (by omega)
  have a2 : -(2 ^ w) * 2 ^ s ≤ n * 2 ^ s := Int.mul_le_mul_of_nonneg_right (by omega) (by omega)
  rw [Int.neg_mul] at a2
  omega
theorem gRun_fine {c s : List Int} (p : Plan c s) {seed : Int} {P : DSt × List Int} (f : DFine P) (j : Nat) (hj : j ≤ 512) {vs : List Int} {Q : DSt × List Int} (h : gRun c s seed P j = some (vs, Q)) :
    DFine Q ∧ Q.1.n ≤ P.1.n + 10 * j ∧ Q.1.bs = P.1.bs ∧ vs.length = j ∧ ∀ x ∈ vs, -67108864 ≤ x ∧ x ≤ 67108864 := by
  induction j generalizing vs Q with
  | zero =>
    injection h with h
    injection h with e1 e2
    subst e1 e2
    exact ⟨f, Nat.le_refl _, rfl, rfl, fun x hx => by cases hx⟩
  | succ j ih =>
    unfold gRun at h
    cases e : gRun c s seed P j with
    | none => rw [e] at h; cases h
    | some T =>
      obtain ⟨us, T⟩ := T
      rw [e] at h
      simp only [Option.bind_some] at h
      obtain ⟨a1, a2, a3, a4, a5⟩ := ih (by omega) e
      have pa := p.at (i := j) (by omega)
      split at h
      · rename_i ht
        cases e2 : gOne T (cB c j - cB s j).toNat with
        | none => rw [e2] at h; cases h
        | some r =>
          obtain ⟨n, T'⟩ := r
          rw [e2] at h
          simp only [Option.map_some] at h
          injection h with h
          injection h with h1 h2
          subst h1 h2
          obtain ⟨b1, b2, b3, b4, b5⟩ := gOne_fine a1 e2
          refine ⟨b1, by omega, b3.trans a3, by simp [a4], fun x hx => ?_⟩
          rcases List.mem_append.1 hx with hx | hx
          · exact a5 x hx
          · simp at hx
            subst hx
            exact shift_bd (c := (cB c j).toNat) b4 b5 (by omega) (by omega)
      · injection h with h
        injection h with h1 h2
        subst h1 h2
        refine ⟨a1, by omega, a3, by simp [a4], fun x hx => ?_⟩
        rcases List.mem_append.1 hx with hx | hx
        · exact a5 x hx
        · simp at hx
          subst hx
          exact nz_bd _ _ _
/-- What was put is got as it is heard. -/
theorem gRun_inv {c s x : List Int} (p : Plan c s) (seed : Int) {P : DSt × List Int} {Q : Enc.RSt × List Int} (f : RFine Q) (h : DRel P.1 Q.1) (e : P.2 = Q.2) (hb : ∀ x ∈ P.1.bs, 0 ≤ x ∧ x ≤ 255) (hi : Inside P.1.bs (rqrun (itm c s x) Q 512).1) (j : Nat) (hj : j ≤ 512) :
    ∃ T, gRun c s seed P j = some ((List.range j).map (hv c s x seed), T) ∧ DRel T.1 (rqrun (itm c s x) Q j).1 ∧ T.2 = (rqrun (itm c s x) Q j).2 ∧ T.1.bs = P.1.bs := by
  induction j with
  | zero => exact ⟨P, rfl, h, e, rfl⟩
  | succ j ih =>
    obtain ⟨T, h1, h2, h3, h4⟩ := ih (by omega)
    have i1 := rqrun_back p f hb 512 (by omega) hi (j + 1) hj
    have fj := (rqrun_fine (x := x) p f j (by omega)).1
    have pa := p.at (i := j) (by omega)
    unfold gRun
    rw [h1, Option.bind_some, List.range_succ, List.map_append]
    unfold rqrun at i1 ⊢
    cases e2 : itm c s x j with
    | none =>
      have ht : ¬ cB s j < cB c j := fun ht => by unfold itm at e2; rw [if_pos ht] at e2; cases e2
      have hvj : hv c s x seed j = nz seed j (cB c j) := by unfold hv; rw [e2]
      rw [if_neg ht]
      exact ⟨T, by simp [hvj], h2, h3, h4⟩
    | some q =>
      have ht : cB s j < cB c j := by unfold itm at e2; split at e2; assumption; cases e2
      have hvj : hv c s x seed j = q * 2 ^ (cB s j).toNat := by unfold hv; rw [e2]
      rw [if_pos ht]
      rw [e2] at i1
      obtain ⟨T', t1, t2, t3, t4⟩ := gOne_inv fj h2 h3 (itm_cls p (by omega) e2).1 (by omega) (by rw [h4]; exact hb) (by rw [h4]; exact i1)
      rw [t1]
      exact ⟨T', by simp [hvj], t2, t3, t4.trans h4⟩
/-- Of no bytes, noughts are got. -/
structure Nought (P : DSt × List Int) : Prop where
  bs : P.1.bs = []
  co : P.1.co = 0
theorem nought_bt {s : DSt} (h : s.bs = []) : Deco.bt s = 0 := by unfold Deco.bt; rw [h]; rfl
theorem nought_norm (k : Nat) : ∀ s : DSt, s.bs = [] → s.co = 0 → (dnorm k s).bs = [] ∧ (dnorm k s).co = 0 := by
  induction k with
  | zero => intro s h1 h2; exact ⟨h1, h2⟩
  | succ k ih =>
    intro s h1 h2
    unfold dnorm
    split
    · refine ih _ h1 ?_
      show s.co * 256 + Deco.bt _ = 0
      rw [h2, nought_bt (show (⟨s.bs, s.n, 0, s.sz * 256⟩ : DSt).bs = [] from h1)]; rfl
    · exact ⟨h1, h2⟩
theorem nought_sym {P : DSt × List Int} (f : DFine P) (h : Nought P) : symK P.1 P.2 = 0 ∧ (symS P.1 P.2).bs = [] ∧ (symS P.1 P.2).co = 0 := by
  have hs := f.r.s0
  have hal := f.g.all
  have h1 := f.g.sum1
  have hat : atS P.1 (Mdl.lsum P.2) = 0 := by
    unfold atS
    rw [h.co, Int.zero_ediv]; omega
  have hp := f.g.at (k := 0) (by rw [f.len]; omega)
  have hk : symK P.1 P.2 = 0 := by
    unfold symK
    rw [hat]
    exact find_is P.2 f.g.nonneg 0 0 (by rw [f.len]; omega) (by simp [Mdl.lsum]) (by simp [Mdl.lsum]; omega)
  refine ⟨hk, ?_⟩
  unfold symS
  rw [hk]
  unfold takeS
  refine nought_norm 2 _ h.bs ?_
  simp only
  rw [h.co]
  have e0 : Mdl.lsum (P.2.take 0) = 0 := by simp [Mdl.lsum]
  rw [e0, Int.mul_zero]
  have hl : P.2.getD 0 0 = P.2[0]'(by rw [f.len]; omega) := Dig.getD_get P.2 0 _
  rw [hl]
  have b3 := Enc.each_lo (Mdl.lsum P.2) P.1.sz (by omega) hal hs
  have : 1 * 1 ≤ P.1.sz / Mdl.lsum P.2 * P.2[0]'(by rw [f.len]; omega) := Int.mul_le_mul (by omega) hp.1 (by decide) (by omega)
  omega
theorem nought_gRun {c s : List Int} (p : Plan c s) {seed : Int} {P : DSt × List Int} (f : DFine P) (h : Nought P) (j : Nat) (hj : j ≤ 512) : ∃ vs Q, gRun c s seed P j = some (vs, Q) ∧ DFine Q ∧ Nought Q := by
  induction j with
  | zero => exact ⟨_, _, rfl, f, h⟩
  | succ j ih =>
    obtain ⟨vs, Q, e, f1, h1⟩ := ih (by omega)
    unfold gRun
    rw [e, Option.bind_some]
    split
    · obtain ⟨s1, s2, s3⟩ := nought_sym f1 h1
      have h2 := next_fine f1.g f1.len (k := 0) (by omega)
      have hr := sym_ready f1.r f1.g
      have hg : gOne Q (cB c j - cB s j).toNat = some (0, (symS Q.1 Q.2, Mdl.next false Q.2 0)) := by
        unfold gOne
        rw [s1, if_neg (by omega), if_pos rfl]
      rw [hg]
      exact ⟨_, _, rfl, ⟨hr.1, h2.1, h2.2⟩, ⟨s2, s3⟩⟩
    · exact ⟨_, _, rfl, f1, h1⟩
end Go.Proofs.Ytlbjoflmfboeeaa.Qnt

/-
  Words: slices that are read while objects are turned. Plain theorems; no condition.
-/
set_option linter.unusedVariables false
namespace Go.Proofs.Ytlbjoflmfboeeaa
open Go.RowKit

/-- u holds these numbers as long as these objects are as they are. -/
def Rd (W : World) (L : List Ast) (k : IntKind) (u : Value) (ys : List Int) : Prop := ∀ w, Hp W w L → Src w k u ys
section
variable {W w : World} {L : List Ast} {k : IntKind} {u v : Value} {ys xs : List Int} {t : TypeId} {g cap : Nat}
theorem Rd.arg (h : Src W k u ys) : Rd W L k u ys := fun w H => Src.below h H.b
theorem Rd.row : Rd W (rowA t k g cap xs :: L) k (.slice (some ⟨g, 0, none⟩) xs.length cap) xs := fun w H => Src.of_sl (Sl.row H.row)
theorem Rd.rown {n : Nat} (hn : xs.length = n) : Rd W (rowA t k g cap xs :: L) k (.slice (some ⟨g, 0, none⟩) n cap) xs := by subst hn; exact Rd.row
theorem Rd.sl : Rd W (slA t k v xs :: L) k v xs := fun w H => Src.of_sl H.sl
theorem Rd.nil : Rd W L k (.slice none 0 0) [] := fun w H => ⟨none, 0, rfl, fun h => by simp at h⟩
theorem Rd.pk (is : List Nat) (h : Rd W (pick is L) k u ys) : Rd W L k u ys := fun w H => h w (H.pk is)
theorem Rd.tail {A : Ast} (h : Rd W L k u ys) : Rd W (A :: L) k u ys := fun w H => h w H.drop
theorem Rd.cell {ad : Addr} {n c j : Nat} (r : Rd W L k (.slice (some ad) n c) ys) (hj : j < ys.length) (w : World) (h : Hp W w L) : w.cell? (ad.add j) = some (.int k ys[j]) := by
  obtain ⟨a, e, d⟩ := (r w h).cell hj
  cases e
  exact d
theorem Src.form (h : Src w k u ys) : ∃ A c, u = .slice A ys.length c := by obtain ⟨A, c, e, _⟩ := h; exact ⟨A, c, e⟩
end
end Go.Proofs.Ytlbjoflmfboeeaa

/-
  The walks of quant.right, near, Noise, and of the document's near, Bits, Noise; no condition but those told.
-/
set_option linter.unusedVariables false
set_option linter.unusedSimpArgs false
namespace Go.Proofs.Ytlbjoflmfboeeaa.Qnt
open Go.RowKit Go.Proofs.Ytlbjoflmfboeeaa Go.Proofs.YtlbjoflmfboeeaaW.PrintWords Go.Proofs.YtlbjoflmfboeeaaW.PrintLast Go.Proofs.YtlbjoflmfboeeaaW.PrintMore Go.Proofs.Ytlbjoflmfboeeaa.Deco Go.Proofs.Ytlbjoflmfboeeaa.Ceil

/-- May ceilings and steps be? -/
def difB (c s : List Int) (k : Nat) : Bool := decide (c.getD k 0 - s.getD k 0 < 13)
def qrB (c s : List Int) : Bool := Erg.rightB c && Erg.rightB s && (List.range 21).all (difB c s)
theorem qrB_plan {c s : List Int} (h : qrB c s = true) : Plan c s := by
  unfold qrB at h
  rw [Bool.and_eq_true, Bool.and_eq_true, List.all_eq_true] at h
  refine ⟨Erg.right_rt h.1.1, Erg.right_rt h.1.2, fun k hk => ?_⟩
  have := h.2 k (List.mem_range.2 hk)
  unfold difB at this
  rw [decide_eq_true_eq] at this
  omega
theorem plan_qrB {c s : List Int} (p : Plan c s) : qrB c s = true := by
  unfold qrB
  rw [Bool.and_eq_true, Bool.and_eq_true, List.all_eq_true]
  refine ⟨⟨Erg.rt_right p.hc, Erg.rt_right p.hs⟩, fun k hk => ?_⟩
  have := p.d k (List.mem_range.1 hk)
  unfold difB
  rw [decide_eq_true_eq]
  omega
/-- The first places that are right. -/
def difs (c s : List Int) (k : Nat) : Bool := (List.range k).all (difB c s)
theorem difs_succ (c s : List Int) (k : Nat) : difs c s (k + 1) = (difs c s k && difB c s k) := by
  unfold difs
  rw [List.range_succ, List.all_append]
  simp
theorem difs_no {c s : List Int} {k : Nat} (hk : k < 21) (h : difB c s k = false) : (List.range 21).all (difB c s) = false := by
  rw [← Bool.not_eq_true, List.all_eq_true]
  intro h2
  rw [h2 k (List.mem_range.2 hk)] at h
  cases h
set_option maxRecDepth 100000 in
theorem qright_calls {w : World} {u v : Value} {c s : List Int} (s1 : Src w .i64 u c) (s2 : Src w .i64 v s) (h1 : c.length ≤ 1000000000) (h2 : s.length ≤ 1000000000) :
    Calls Try.prog 79 #[u, v] w fun e w' => e = .returned (.bool (qrB c s)) ∧ ∃ n, w' = w.drewN n := by
  have C1 := Lib.hid (Erg.Right_calls s1 h1)
  have C2 := Lib.hid (Erg.Right_calls s2 h2)
  have S1 := Lib.hid s1
  have S2 := Lib.hid s2
  obtain ⟨A, ca, rfl, _⟩ := s1
  obtain ⟨B, cb, rfl, _⟩ := s2
  have HQ : Hid (qrB c s = (Erg.rightB c && Erg.rightB s && (List.range 21).all (difB c s))) := Lib.hid rfl
  cases hr : Erg.rightB c with
  | false =>
    rw [hr] at C1
    have HF : Hid (qrB c s = false) := Lib.hid (by rw [HQ.out, hr]; rfl)
    rw [HF.out]
    go_enter Try.func79, Try.ntmps79
    go_wp2_with fail
    refine C1.out.mono ?_
    rintro e1 w1 ⟨rfl, he⟩
    subst w1
    go_wp2_with fail
    go_ret
    exact ⟨rfl, 0, rfl⟩
  | true =>
    rw [hr] at C1
    cases hr2 : Erg.rightB s with
    | false =>
      rw [hr2] at C2
      have HF : Hid (qrB c s = false) := Lib.hid (by rw [HQ.out, hr, hr2]; rfl)
      rw [HF.out]
      go_enter Try.func79, Try.ntmps79
      go_wp2_with fail
      refine C1.out.mono ?_
      rintro e1 w1 ⟨rfl, he⟩
      subst w1
      go_wp2_with fail
      refine C2.out.mono ?_
      rintro e1 w1 ⟨rfl, he⟩
      subst w1
      go_wp2_with fail
      go_ret
      exact ⟨rfl, 0, rfl⟩
    | true =>
      rw [hr2] at C2
      have HB : Hid (qrB c s = (List.range 21).all (difB c s)) := Lib.hid (by rw [HQ.out, hr, hr2]; rfl)
      have RC := Lib.hid (Erg.right_rt hr)
      have RS := Lib.hid (Erg.right_rt hr2)
      rw [RC.out.len] at C1 S1
      rw [RS.out.len] at C2 S2
      have lc := RC.out.len
      have ls := RS.out.len
      rw [lc, ls]
      clear hr hr2 HQ h1 h2
      go_enter Try.func79, Try.ntmps79
      go_wp2_with fail
      refine C1.out.mono ?_
      rintro e1 w1 ⟨rfl, he⟩
      subst w1
      go_wp2_with fail
      refine C2.out.mono ?_
      rintro e1 w1 ⟨rfl, he⟩
      subst w1
      go_wp2_with fail
      go_loopw [17] (fun u wr => ∃ k : Nat, k ≤ 21 ∧ u = .int .i64 (k : Int) ∧ difs c s k = true ∧ ∃ n, wr = w.drewN n) (fun u _ => 21 - (intOf u).toNat)
      case atStart => exact ⟨0, by omega, rfl, rfl, 0, rfl⟩
      case round =>
        obtain ⟨k, hk, rfl, HD, q, rfl⟩ := hrel
        by_cases hlt : k < 21
        · obtain ⟨ad, rfl, d1⟩ := S1.out.cell (j := k) (by rw [lc]; exact hlt)
          obtain ⟨ad2, rfl, d2⟩ := S2.out.cell (j := k) (by rw [ls]; exact hlt)
          have d1 : (w.drewN q).cell? (ad.add k) = _ := d1
          have d2 : (w.drewN q).cell? (ad2.add k) = _ := d2
          have b1 := RC.out.bd k (by rw [lc]; exact hlt)
          have b2 := RS.out.bd k (by rw [ls]; exact hlt)
          have ik : (k : Int) < 21 := by omega
          have HV : Hid (difB c s k = decide (c[k]'(by rw [lc]; exact hlt) - s[k]'(by rw [ls]; exact hlt) < 13)) := Lib.hid (by unfold difB; rw [Dig.getD_get c k, Dig.getD_get s k])
          generalize c[k]'(by rw [lc]; exact hlt) = x at *
          generalize s[k]'(by rw [ls]; exact hlt) = y at *
          have w1 : IntKind.i64.wrap (x - y) = x - y := wrapI64 (by omega) (by omega)
          by_cases h13 : x - y < 13
          · have HN := Lib.hid (difs_succ c s k)
            rw [HD, HV.out, decide_eq_true h13] at HN
            have h13' : ¬ (13 ≤ x - y) := by omega
            go_wp2_with fail
            go_roundw
            case rel => exact ⟨k + 1, by omega, by push_cast; rfl, by rw [HN.out]; rfl, q, rfl⟩
            case measure => simp [intOf]; omega
          · rw [decide_eq_false h13] at HV
            have HF : Hid (qrB c s = false) := Lib.hid (by rw [HB.out]; exact difs_no hlt HV.out)
            have h13' : 13 ≤ x - y := by omega
            go_wp2_with fail
            go_ret
            rw [HF.out]
            exact ⟨rfl, q, rfl⟩
        · obtain rfl : k = 21 := by omega
          have HF : Hid (qrB c s = true) := Lib.hid (by rw [HB.out]; exact HD)
          go_wp2_with fail
          go_ret
          rw [HF.out]
          exact ⟨rfl, q, rfl⟩
theorem arith_Round_eq (k : Nat) (n b : Int) (h0 : -9223372036854775808 ≤ n) (h1 : n < 9223372036854775808) (hb0 : 0 ≤ b) (hb1 : b ≤ 62) :
    PQuantNear.arith_Round.f (k + 1) n b = some (rnd n b.toNat) := by
  obtain ⟨b, rfl⟩ := Int.eq_ofNat_of_zero_le hb0
  simp only [PQuantNear.arith_Round.f, PQuantNear.arith_Round.j0]
  rw [if_neg (by omega), if_neg (by simp; omega), Int.toNat_natCast]
  unfold rnd
  by_cases hz : b = 0
  · subst hz; rfl
  · rw [if_neg (by omega), if_pos (by omega), w64 (by omega) (by omega), if_pos (by omega), if_neg hz]
    rw [and_one_i64]
    have e1 : shr .i64 n (b : Int) = n / 2 ^ b := by unfold shr; rw [Int.toNat_natCast, Nat.min_eq_left (by show b ≤ 64; omega)]
    have e2 : shr .i64 n ((b : Int) - 1) = n / 2 ^ (b - 1) := by
      unfold shr; rw [show ((b : Int) - 1).toNat = b - 1 from by omega, Nat.min_eq_left (by show b - 1 ≤ 64; omega)]
    rw [e1, e2]
    have := rnd_bd n b h0 h1
    unfold rnd at this
    rw [if_neg hz] at this
    rw [w64 this.1 (by omega)]
theorem shl_i64 (x : Int) (n : Nat) (hn : n ≤ 64) (h0 : -9223372036854775808 ≤ x * 2 ^ n) (h1 : x * 2 ^ n < 9223372036854775808) : shl .i64 x (n : Int) = x * 2 ^ n := by
  unfold shl
  rw [Int.toNat_natCast, Nat.min_eq_left (by show n ≤ 64; omega), IntKind.wrap_i64]
  omega
theorem shl_i32 (x : Int) (n : Nat) (hn : n ≤ 32) (h0 : -2147483648 ≤ x * 2 ^ n) (h1 : x * 2 ^ n < 2147483648) : shl .i32 x (n : Int) = x * 2 ^ n := by
  unfold shl
  rw [Int.toNat_natCast, Nat.min_eq_left (by show n ≤ 32; omega), show IntKind.i32.wrap (x * 2 ^ n) = wrap32 (x * 2 ^ n) from (by first | rfl | exact (i32_w _)), w32 h0 h1]
/-- A line as a number of steps. -/
theorem near_calls (x : Int) (s v : Nat) (hx : -2147483648 ≤ x ∧ x < 2147483648) (hs : s ≤ 26) (hv : v ≤ 26) (w : World) : Calls Try.prog 82 #[.int .i32 x, .int .i64 s, .int .i64 v] w fun e w' => e = .returned (.int .i64 (nearV x s v)) ∧ Below w.heap.size w w' := by
  have h : PQuantNear.quant_near.f 1 x (s : Int) (v : Int) = some (nearV x s v) := by
    unfold PQuantNear.quant_near.f
    have hp := pw_pos v
    have hp2 : (2 : Int) ^ v ≤ 2 ^ 26 := pw_le hv
    have e26 : (2 : Int) ^ 26 = 67108864 := by decide
    rw [if_pos (by omega), w64 (x := x) (by omega) (by omega), arith_Round_eq 0 x (s : Int) (by omega) (by omega) (by omega) (by omega), Option.bind_some, Int.toNat_natCast, shl_i64 1 v (by omega) (by omega) (by omega), Int.one_mul, w64 (x := 2 ^ v - 1) (by omega) (by omega), w64 (by omega) (by omega)]
    unfold nearV mn mx
    congr 1
    omega
  exact PQuantNear.quant_near.calls 1 x s v _ w h
theorem Noise_calls (seed line n : Int) (w : World) : Calls Try.prog 53 #[.int .u32 seed, .int .i64 line, .int .i64 n] w fun e w' => e = .returned (.int .i32 (nz seed line n)) ∧ Drawn0 w w' := by
  have h : PQuantNear.quant_Noise.f 1 seed line n = some (nz seed line n) := by
    unfold PQuantNear.quant_Noise.f nz
    by_cases h3 : n < 3
    · rw [if_pos h3, if_pos (.inl h3)]
      simp only [PQuantNear.quant_Noise.j0, if_true]
    · rw [if_neg h3]
      by_cases h26 : 26 < n
      · rw [if_pos (.inr h26), show decide (n > 26) = true from decide_eq_true h26]
        simp only [PQuantNear.quant_Noise.j0, if_true]
      · rw [if_neg (by omega), show decide (n > 26) = false from decide_eq_false (by omega)]
        obtain ⟨m, rfl⟩ := Int.eq_ofNat_of_zero_le (show 0 ≤ n by omega)
        have hq := pw_pos (m - 2)
        have hq2 : (2 : Int) ^ (m - 2) ≤ 2 ^ 26 := pw_le (by omega)
        have e26 : (2 : Int) ^ 26 = 67108864 := by decide
        simp only [PQuantNear.quant_Noise.j0]
        rw [if_neg (by simp), w64 (x := (m : Int) - 2) (by omega) (by omega), if_pos (by omega), show (m : Int) - 2 = ((m - 2 : Nat) : Int) from by omega, shl_i32 1 (m - 2) (by omega) (by omega) (by omega), Int.one_mul, w32 (x := -(2 ^ (m - 2))) (by omega) (by omega), Int.toNat_natCast]
        unfold nzc nzb
        split <;> rfl
  exact PQuantNear.quant_Noise.calls 1 seed line n _ w h
theorem told_calls (a b : Int) (w : World) : Calls Try.prog 81 #[.int .i64 a, .int .i64 b] w fun e w' => e = .returned (.bool (decide (b < a))) ∧ Drawn0 w w' := PQuantNear.mask_Told.calls a b _ w rfl
end Go.Proofs.Ytlbjoflmfboeeaa.Qnt

/-
  How many bits a number has: math/bits.Len; no condition but those told.
-/
set_option linter.unusedVariables false
set_option linter.unusedSimpArgs false
namespace Go.Proofs.Ytlbjoflmfboeeaa.Qnt
open Go.RowKit Go.Proofs.Ytlbjoflmfboeeaa Go.Proofs.YtlbjoflmfboeeaaW.PrintWords Go.Proofs.YtlbjoflmfboeeaaW.PrintLast Go.Proofs.YtlbjoflmfboeeaaW.PrintMore Go.Proofs.Ytlbjoflmfboeeaa.Ceil
open Go.Proofs.Ytlbjoflmfboeeaa.PLen (bits_Len64.f bits_Len64.j0 bits_Len.f bits_Len.calls)

theorem len64_j_eq (k : Nat) (x0 x2 : Int) : bits_Len64.j0 (k + 1) x0 x2 = (if x0 ≥ 65536 then (if (x0 / 65536) ≥ 256 then (if 0 ≤ (((x0 / 65536) / 256) % 256) then (if (((x0 / 65536) / 256) % 256) < 256 then (some (wrap64 ((wrap64 ((wrap64 (x2 + 16)) + 8)) + (wrap64 (bt TABL (((x0 / 65536) / 256) % 256)))))) else (none)) else (none)) else (if 0 ≤ ((x0 / 65536) % 256) then (if ((x0 / 65536) % 256) < 256 then (some (wrap64 ((wrap64 (x2 + 16)) + (wrap64 (bt TABL ((x0 / 65536) % 256)))))) else (none)) else (none))) else (if x0 ≥ 256 then (if 0 ≤ ((x0 / 256) % 256) then (if ((x0 / 256) % 256) < 256 then (some (wrap64 ((wrap64 (x2 + 8)) + (wrap64 (bt TABL ((x0 / 256) % 256)))))) else (none)) else (none)) else (if 0 ≤ ((x0) % 256) then (if ((x0) % 256) < 256 then (some (wrap64 (x2 + (wrap64 (bt TABL ((x0) % 256)))))) else (none)) else (none)))) := rfl
theorem len64_j (k : Nat) (x s : Int) (h0 : 0 ≤ x) (h1 : x < 4294967296) (s0 : 0 ≤ s) (s1 : s ≤ 32) : bits_Len64.j0 (k + 1) x s = some (s + blen x) := by
  have core : ∀ y t : Int, 0 ≤ y → y < 256 → 0 ≤ t → t ≤ 56 → (if 0 ≤ y % 256 then (if y % 256 < 256 then some (wrap64 (t + wrap64 (bt TABL (y % 256)))) else none) else none) = some (t + blen y) := by
    intro y t hy0 hy1 ht0 ht1
    have hb := blen_small hy0 hy1
    rw [if_pos (by omega), if_pos (by omega), show y % 256 = y from by omega, TABL_eq y hy0 hy1, w64 (x := blen y) (by omega) (by omega), w64 (by omega) (by omega)]
  rw [len64_j_eq]
  by_cases ha : x ≥ 65536
  · rw [if_pos ha]
    have d1 := blen_div x 16 (by omega)
    rw [show ((2 : Int) ^ 16) = 65536 from by decide] at d1
    by_cases hb : x / 65536 ≥ 256
    · rw [if_pos hb, w64 (x := s + 16) (by omega) (by omega), w64 (x := s + 16 + 8) (by omega) (by omega)]
      have d2 := blen_div (x / 65536) 8 (by omega)
      rw [show ((2 : Int) ^ 8) = 256 from by decide] at d2
      refine (core (x / 65536 / 256) (s + 16 + 8) (by omega) (by omega) (by omega) (by omega)).trans ?_
      congr 1; omega
    · rw [if_neg hb, w64 (x := s + 16) (by omega) (by omega)]
      refine (core (x / 65536) (s + 16) (by omega) (by omega) (by omega) (by omega)).trans ?_
      congr 1; omega
  · rw [if_neg ha]
    by_cases hb : x ≥ 256
    · rw [if_pos hb, w64 (x := s + 8) (by omega) (by omega)]
      have d2 := blen_div x 8 (by omega)
      rw [show ((2 : Int) ^ 8) = 256 from by decide] at d2
      refine (core (x / 256) (s + 8) (by omega) (by omega) (by omega) (by omega)).trans ?_
      congr 1; omega
    · rw [if_neg hb]
      exact core x s h0 (by omega) s0 (by omega)
theorem len64 (k : Nat) (x : Int) (h0 : 0 ≤ x) (h1 : x < 18446744073709551616) : bits_Len64.f (k + 1) x = some (blen x) := by
  unfold bits_Len64.f
  by_cases ha : x ≥ 4294967296
  · rw [if_pos ha, len64_j k _ _ (by omega) (by omega) (by omega) (by omega)]
    have d := blen_div x 32 (by omega)
    rw [show ((2 : Int) ^ 32) = 4294967296 from by decide] at d
    congr 1; omega
  · rw [if_neg ha, len64_j k _ _ h0 (by omega) (by omega) (by omega)]
    congr 1; omega

theorem len_calls (n : Int) (h : n.natAbs < 1000000000) (w : World) : Calls Try.prog 91 #[.int .u64 (n.natAbs : Int)] w fun e w' => e = .returned (.int .i64 (cls n : Int)) ∧ Drawn0 w w' := by
  have e : bits_Len.f 1 (n.natAbs : Int) = some (cls n : Int) := by
    unfold bits_Len.f
    rw [len64 0 _ (by omega) (by omega), Option.bind_some]
    congr 1
    unfold blen cls
    by_cases h0 : n = 0
    · subst h0; rfl
    · rw [if_neg (by omega), if_neg h0, Int.toNat_natCast]; rfl
  exact bits_Len.calls 1 _ _ w e
end Go.Proofs.Ytlbjoflmfboeeaa.Qnt

/-
  The walks of quant.put and quant.get; no condition but those told.
-/
set_option linter.unusedVariables false
set_option linter.unusedSimpArgs false
namespace Go.Proofs.Ytlbjoflmfboeeaa.Qnt
open Go.RowKit Go.Proofs.Ytlbjoflmfboeeaa Go.Proofs.YtlbjoflmfboeeaaW.PrintWords Go.Proofs.YtlbjoflmfboeeaaW.PrintLast Go.Proofs.YtlbjoflmfboeeaaW.PrintMore Go.Proofs.Ytlbjoflmfboeeaa.Deco Go.Proofs.Ytlbjoflmfboeeaa.Ceil

attribute [local irreducible] Enc.bitsS Enc.symS bitsD symS symK
set_option maxHeartbeats 2000000 in
set_option maxRecDepth 100000 in
theorem put_h {W w : World} {L : List Ast} {e m : Nat} {P : Enc.St × List Int} (H : Hp W w (encA e P.1 :: mdlA m P.2 false :: L)) (f : Fine P) (small : P.1.k ≤ 700000000) (n : Int) (hn : cls n ≤ 12) :
    Calls Try.prog 86 #[.pointer (some ⟨e, 0, none⟩), .pointer (some ⟨m, 0, none⟩), .int .i64 n] w fun en w' => en = .returned (.tuple #[]) ∧ Hp W w' (encA e (qput P n).1 :: mdlA m (qput P n).2 false :: L) := by
  have H0 := Lib.hid H
  have F := Lib.hid f
  have ha : n.natAbs < 4096 := by
    by_cases h0 : n = 0
    · subst h0; decide
    · have := cls_spec h0
      have h2 : 2 ^ cls n ≤ 2 ^ 12 := Nat.pow_le_pow_right (by decide) hn
      have : (2 : Nat) ^ 12 = 4096 := by decide
      omega
  have LN := Lib.hid (fun w => len_calls n (by omega) w)
  have HQ : Hid (qput P n = (if n = 0 then Enc.symS P.1 P.2 (cls n) else Enc.bitsS (Enc.bitsS (Enc.symS P.1 P.2 (cls n)) (sgn n) 1) (low n) (cls n - 1), Mdl.next false P.2 (cls n))) := Lib.hid rfl
  have CZ := Lib.hid (cls_zero n)
  have SB := Lib.hid (fun q => Enc.Symbol_h (H.drewN q) f.r (by omega) f.g (cls n) (by rw [f.len]; omega))
  have S1 := Lib.hid (Enc.symS_ready f.r f.g (k := cls n) (by rw [f.len]; omega))
  clear H f
  by_cases hz : n = 0
  · subst hz
    have hk : cls 0 = 0 := rfl
    rw [hk] at LN HQ SB
    have HQ1 : Hid (qput P 0 = (Enc.symS P.1 P.2 0, Mdl.next false P.2 0)) := Lib.hid (by rw [HQ.out, if_pos rfl])
    clear HQ S1 CZ
    go_enter Try.func86, Try.ntmps86
    go_wp2_with fail
    refine (LN.out _).mono ?_
    rintro e1 w1 ⟨rfl, q, rfl⟩
    go_wp2_with fail
    refine (SB.out q).mono ?_
    rintro e2 w2 ⟨rfl, h2⟩
    have H2 := Lib.hid h2
    go_wp2_with fail
    refine bodyPost_ret (v := .tuple #[]) (by simp [results, Try.results86, go_sem]) rfl ⟨rfl, ?_⟩
    rw [HQ1.out]
    exact H2.out
  have LB := Lib.hid (low_bd hz)
  have CS := Lib.hid (cls_spec hz)
  have HQ1 : Hid (qput P n = (Enc.bitsS (Enc.bitsS (Enc.symS P.1 P.2 (cls n)) (sgn n) 1) (low n) (cls n - 1), Mdl.next false P.2 (cls n))) := Lib.hid (by rw [HQ.out, if_neg hz])
  clear HQ
  have c1 := CS.out.1
  obtain ⟨j, hj⟩ : ∃ j, cls n = j + 1 := ⟨cls n - 1, by omega⟩
  have HJ := Lib.hid hj
  rw [hj] at LN SB S1 LB HQ1 hn
  rw [Nat.add_sub_cancel] at LB HQ1
  clear hj c1 CS CZ
  have SR := Lib.hid (Enc.bitsS_ready S1.out.1 (sgn n) 1 (by decide))
  have LV : Hid (bits .and .u32 (n.natAbs : Int) ((2 ^ j - 1) % 4294967296) = low n) := Lib.hid (by
    have h1 := LB.out
    have hp := pw_pos j
    have hle : (2 : Int) ^ j ≤ 2 ^ 12 := pw_le (by omega)
    have e12 : (2 : Int) ^ 12 = 4096 := by decide
    rw [Int.emod_eq_of_lt (a := 2 ^ j - 1) (by omega) (by omega)]
    have hb := bits_mask .u32 32 (by decide) Enc.wraps_u32 j (by omega) (n.natAbs : Int) (by omega) (by omega)
    rw [hb, h1.2.2, Int.add_emod_right, Int.emod_eq_of_lt h1.1 h1.2.1])
  obtain ⟨a, ha2⟩ : ∃ a : Nat, n.natAbs = a := ⟨_, rfl⟩
  rw [ha2] at LN ha LV
  obtain ⟨sg, hsg⟩ : ∃ sg, sgn n = sg := ⟨_, rfl⟩
  have SG := Lib.hid hsg
  rw [hsg] at HQ1 SR
  have j0 : ((j + 1 : Nat) : Int) - 1 = (j : Int) := by omega
  by_cases h0 : n < 0
  · obtain rfl : sg = 1 := by rw [← hsg]; unfold sgn; rw [if_pos h0]
    have w1 : IntKind.i64.wrap (-n) = (a : Int) := by rw [wrapI64 (by omega) (by omega)]; omega
    have w2 : IntKind.u64.wrap (a : Int) = (a : Int) := Enc.wraps_u64 _ (by omega) (by omega)
    have w3 : IntKind.u32.wrap (a : Int) = (a : Int) := Enc.wraps_u32 _ (by omega) (by omega)
    clear hsg ha2
    go_enter Try.func86, Try.ntmps86
    go_wp2_with fail
    refine (LN.out _).mono ?_
    rintro e1 w1 ⟨rfl, q, rfl⟩
    go_wp2_with fail
    refine (SB.out q).mono ?_
    rintro e2 w2 ⟨rfl, h2⟩
    have H2 := Lib.hid h2
    clear h2
    go_wp2_with fail
    refine (Enc.Bits_h H2.out S1.out.1 (by have := S1.out.2.2; omega) 1 1 (by decide) (by decide) (by decide)).mono ?_
    rintro e3 w3 ⟨rfl, h3⟩
    have H3 := Lib.hid h3
    clear h3 H2
    go_wp2_with fail
    rw [LV.out]
    refine (Enc.Bits_h H3.out SR.out.1 (by have := SR.out.2.2; have := S1.out.2.2; omega) _ j LB.out.1 LB.out.2.1 (by omega)).mono ?_
    rintro e4 w4 ⟨rfl, h4⟩
    have H4 := Lib.hid h4
    clear h4
    go_wp2_with fail
    refine bodyPost_end (results_none rfl _ _ _) rfl ⟨rfl, ?_⟩
    rw [HQ1.out]
    exact H4.out
  · obtain rfl : sg = 0 := by rw [← hsg]; unfold sgn; rw [if_neg h0]
    obtain rfl : n = (a : Int) := by omega
    have w2 : IntKind.u64.wrap (a : Int) = (a : Int) := Enc.wraps_u64 _ (by omega) (by omega)
    have w3 : IntKind.u32.wrap (a : Int) = (a : Int) := Enc.wraps_u32 _ (by omega) (by omega)
    clear hsg ha2
    go_enter Try.func86, Try.ntmps86
    go_wp2_with fail
    refine (LN.out _).mono ?_
    rintro e1 w1 ⟨rfl, q, rfl⟩
    go_wp2_with fail
    refine (SB.out q).mono ?_
    rintro e2 w2 ⟨rfl, h2⟩
    have H2 := Lib.hid h2
    clear h2
    go_wp2_with fail
    refine (Enc.Bits_h H2.out S1.out.1 (by have := S1.out.2.2; omega) 0 1 (by decide) (by decide) (by decide)).mono ?_
    rintro e3 w3 ⟨rfl, h3⟩
    have H3 := Lib.hid h3
    clear h3 H2
    go_wp2_with fail
    rw [LV.out]
    refine (Enc.Bits_h H3.out SR.out.1 (by have := SR.out.2.2; have := S1.out.2.2; omega) _ j LB.out.1 LB.out.2.1 (by omega)).mono ?_
    rintro e4 w4 ⟨rfl, h4⟩
    have H4 := Lib.hid h4
    clear h4
    go_wp2_with fail
    refine bodyPost_end (results_none rfl _ _ _) rfl ⟨rfl, ?_⟩
    rw [HQ1.out]
    exact H4.out
theorem or_low (y : Int) (j : Nat) (hj : j ≤ 11) (h0 : 0 ≤ y) (h1 : y < 2 ^ j) : bits .or .i64 y (2 ^ j) = y + 2 ^ j := by
  obtain ⟨a, rfl⟩ := Int.eq_ofNat_of_zero_le h0
  have ec := pow_cast j
  have hle : 2 ^ j ≤ 2 ^ 11 := Nat.pow_le_pow_right (by decide) hj
  have e11 : (2 : Nat) ^ 11 = 2048 := by decide
  rw [← ec] at h1 ⊢
  have ha : a < 2 ^ j := by omega
  show IntKind.i64.wrap ((BitVec.ofInt 64 (a : Int) ||| BitVec.ofInt 64 ((2 ^ j : Nat) : Int)).toNat : Int) = _
  have t : ∀ x : Nat, x < 4096 → (BitVec.ofInt 64 (x : Int)).toNat = x := fun x hx => by
    have : ((BitVec.ofInt 64 (x : Int)).toNat : Int) = (x : Int) % 18446744073709551616 := by
      rw [BitVec.toNat_ofInt, Int.toNat_of_nonneg (Int.emod_nonneg _ (by decide))]; rfl
    omega
  have ho := Nat.two_pow_add_eq_or_of_lt ha 1
  rw [Nat.mul_one] at ho
  rw [BitVec.toNat_or, t a (by omega), t (2 ^ j) (by omega), Nat.or_comm, ← ho, wrapI64 (by omega) (by omega)]
  omega
/-- A number got, of so many bits at most. -/
def GetPost (W : World) (L : List Ast) (d m : Nat) (r : Option (Int × (DSt × List Int))) (en : Ending) (w' : World) : Prop :=
  (∃ n P, r = some (n, P) ∧ en = .returned (.tuple #[.int .i64 n, .bool true]) ∧ Hp W w' (pdecA d P.1 :: mdlA m P.2 false :: L)) ∨ (r = none ∧ en = .returned (.tuple #[.int .i64 0, .bool false]) ∧ ∃ P' : DSt × List Int, Hp W w' (pdecA d P'.1 :: mdlA m P'.2 false :: L))
set_option maxHeartbeats 2000000 in
set_option maxRecDepth 100000 in
theorem get_h {W w : World} {L : List Ast} {d m : Nat} {P : DSt × List Int} (H : Hp W w (pdecA d P.1 :: mdlA m P.2 false :: L)) (f : DFine P) (small : P.1.n ≤ 700000000) (v : Nat) (hv : v ≤ 1000) :
    Calls Try.prog 83 #[.pointer (some ⟨d, 0, none⟩), .pointer (some ⟨m, 0, none⟩), .int .i64 v] w (GetPost W L d m (gOne P v)) := by
  have F := Lib.hid f
  have K12 := sym13 f
  have SB := Lib.hid (Deco.Symbol_h H f.r (by omega) f.g)
  have S1 := Lib.hid (sym_ready f.r f.g)
  have HG : Hid (gOne P v = (if v < symK P.1 P.2 then none
    else if symK P.1 P.2 = 0 then some (0, (symS P.1 P.2, Mdl.next false P.2 (symK P.1 P.2)))
    else some ((if (bitsD (symS P.1 P.2) 0 1).1 = 1 then -((bitsD (bitsD (symS P.1 P.2) 0 1).2 0 (symK P.1 P.2 - 1)).1 + 2 ^ (symK P.1 P.2 - 1)) else (bitsD (bitsD (symS P.1 P.2) 0 1).2 0 (symK P.1 P.2 - 1)).1 + 2 ^ (symK P.1 P.2 - 1)),
      ((bitsD (bitsD (symS P.1 P.2) 0 1).2 0 (symK P.1 P.2 - 1)).2, Mdl.next false P.2 (symK P.1 P.2))))) := Lib.hid rfl
  clear H f
  obtain ⟨k, hk⟩ : ∃ k, symK P.1 P.2 = k := ⟨_, rfl⟩
  rw [hk] at K12 SB HG
  clear hk
  by_cases hv2 : v < k
  · rw [if_pos hv2] at HG
    have i1 : (v : Int) < (k : Int) := by omega
    have i2 : ¬ (k : Int) = 0 := by omega
    have z1 : ((k : Int) == 0) = false := by rw [beq_eq_false_iff_ne]; exact i2
    go_enter Try.func83, Try.ntmps83
    go_wp2_with fail
    refine SB.out.mono ?_
    rintro e1 w1 ⟨rfl, h1⟩
    have H1 := Lib.hid h1
    clear h1 SB
    go_wp2_with fail
    go_ret2
    exact .inr ⟨HG.out, rfl, (_, _), H1.out⟩
  · rw [if_neg hv2] at HG
    by_cases h0 : k = 0
    · subst h0
      rw [if_pos rfl] at HG
      go_enter Try.func83, Try.ntmps83
      go_wp2_with fail
      refine SB.out.mono ?_
      rintro e1 w1 ⟨rfl, h1⟩
      have H1 := Lib.hid h1
      clear h1 SB
      go_wp2_with fail
      go_ret2
      exact .inl ⟨_, _, HG.out, rfl, H1.out⟩
    · rw [if_neg h0] at HG
      obtain ⟨j, hj⟩ : ∃ j, k = j + 1 := ⟨k - 1, by omega⟩
      rw [show k - 1 = j from by omega] at HG
      have i1 : ¬ (v : Int) < (k : Int) := by omega
      have i2 : ¬ (k : Int) = 0 := by omega
      have z1 : ((k : Int) == 0) = false := by rw [beq_eq_false_iff_ne]; exact i2
      have z2 : decide ((v : Int) < (k : Int)) = false := decide_eq_false i1
      have j0 : (k : Int) - 1 = (j : Int) := by omega
      have hj12 : j ≤ 11 := by omega
      have HJ := Lib.hid hj
      clear hj
      go_enter Try.func83, Try.ntmps83
      go_wp2_with fail
      refine SB.out.mono ?_
      rintro e1 w1 ⟨rfl, h1⟩
      have H1 := Lib.hid h1
      clear h1 SB
      go_wp2_with fail
      have S2 := Lib.hid (bits_ready S1.out.1 0 1 (by decide))
      have B2 := Lib.hid (bits12 S1.out.1 1 (by decide))
      have BA := Lib.hid (Deco.Bits_h H1.out S1.out.1 (by have := S1.out.2.2.2; omega) 1 (by decide))
      obtain ⟨T, hT⟩ : ∃ T, bitsD (symS P.1 P.2) 0 1 = T := ⟨_, rfl⟩
      rw [hT] at S2 B2 BA HG
      clear hT H1
      refine BA.out.mono ?_
      rintro e2 w2 ⟨rfl, h2⟩
      have BB := Lib.hid (Deco.Bits_h h2 S2.out.1 (by have := S2.out.2.2.2; have := S1.out.2.2.2; omega) j (by omega))
      have B3 := Lib.hid (bits12 S2.out.1 j (by omega))
      obtain ⟨sg, T⟩ := T
      simp only at BB B3 HG B2
      obtain ⟨U, hU⟩ : ∃ U, bitsD T 0 j = U := ⟨_, rfl⟩
      rw [hU] at BB B3 HG
      clear hU h2 BA S2 S1
      obtain ⟨y, U⟩ := U
      simp only at BB B3 HG B2
      have hp := Lib.hid (pw_pos j)
      have hle := Lib.hid (pw_le (show j ≤ 11 by omega))
      have e11 : Hid ((2 : Int) ^ 11 = 2048) := Lib.hid (by decide)
      have q1 : IntKind.i64.wrap y = y := wrapI64 (by have := B3.out; have := hle.out; omega) (by have := B3.out; have := hle.out; have := e11.out; omega)
      have q2 : IntKind.i64.wrap (2 ^ j) = 2 ^ j := wrapI64 (by have := hp.out; omega) (by have := hle.out; have := e11.out; omega)
      have q3 : bits .or .i64 y (2 ^ j) = y + 2 ^ j := or_low y j (by omega) B3.out.1 B3.out.2
      obtain ⟨z, hz⟩ : ∃ z, y + 2 ^ j = z := ⟨_, rfl⟩
      have zb : 0 ≤ z ∧ z ≤ 4096 := by have := B3.out; have := hp.out; have := hle.out; have := e11.out; omega
      rw [hz] at q3 HG
      have q4 : IntKind.i64.wrap (-z) = -z := wrapI64 (by omega) (by omega)
      clear hz hp hle e11 B3
      by_cases hs : sg = 1
      · subst hs
        rw [if_pos rfl] at HG
        go_wp2_with fail
        refine BB.out.mono ?_
        rintro e3 w3 ⟨rfl, h3⟩
        have H3 := Lib.hid h3
        clear h3 BB
        go_wp2_with fail
        go_ret2
        exact .inl ⟨_, _, HG.out, rfl, H3.out⟩
      · rw [if_neg hs] at HG
        go_wp2_with fail
        refine BB.out.mono ?_
        rintro e3 w3 ⟨rfl, h3⟩
        have H3 := Lib.hid h3
        clear h3 BB
        go_wp2_with fail
        go_ret2
        exact .inl ⟨_, _, HG.out, rfl, H3.out⟩
end Go.Proofs.Ytlbjoflmfboeeaa.Qnt

/-
  The walk of quant.Put; no condition but those told.
-/
set_option linter.unusedVariables false
set_option linter.unusedSimpArgs false
namespace Go.Proofs.Ytlbjoflmfboeeaa.Qnt
open Go.RowKit Go.Proofs.Ytlbjoflmfboeeaa Go.Proofs.YtlbjoflmfboeeaaW.PrintWords Go.Proofs.YtlbjoflmfboeeaaW.PrintLast Go.Proofs.YtlbjoflmfboeeaaW.PrintMore Go.Proofs.Ytlbjoflmfboeeaa.Deco Go.Proofs.Ytlbjoflmfboeeaa.Ceil

/-- Before any line. -/
def ones : List Int := List.replicate 13 1
theorem fine0 {s : Enc.St} (ok : s.Ready) : Fine (s, ones) := ⟨ok, Mdl.good_new 13 (by decide) (by decide), rfl⟩
theorem el_nat (i : Nat) (hi : i ≤ 21) : 0 ≤ Bno.el i ∧ Bno.el i ≤ 512 := by
  have : ∀ i : Fin 22, 0 ≤ Bno.el i.val ∧ Bno.el i.val ≤ 512 := by decide
  exact this ⟨i, by omega⟩
theorem el_up (i : Nat) (hi : i < 21) : Bno.el i < Bno.el (i + 1) := Bno.el_mono ⟨i, by omega⟩ ⟨i + 1, by omega⟩ (by simp)
/-- The lines of a band. -/
theorem cB_band (c : List Int) {i j : Nat} (hi : i < 21) (h0 : Bno.el i ≤ j) (h1 : (j : Int) < Bno.el (i + 1)) : cB c j = c.getD i 0 := by
  unfold cB bnd
  rw [Bno.band_one (j : Int) i hi h0 h1]; simp
theorem qrun_none {I : Nat → Option Int} {P : Enc.St × List Int} {j : Nat} (h : I j = none) : qrun I P (j + 1) = qrun I P j := by
  show (match I j with
    | none => qrun I P j
    | some q => qput (qrun I P j) q) = _
  rw [h]
theorem qrun_some {I : Nat → Option Int} {P : Enc.St × List Int} {j : Nat} {q : Int} (h : I j = some q) : qrun I P (j + 1) = qput (qrun I P j) q := by
  show (match I j with
    | none => qrun I P j
    | some q => qput (qrun I P j) q) = _
  rw [h]
/-- A band that isn't told. -/
theorem qrun_skip {c s x : List Int} (P : Enc.St × List Int) {i : Nat} (hi : i < 21) (h : ¬ s.getD i 0 < c.getD i 0) (k : Nat) (hk : Bno.el i + k ≤ Bno.el (i + 1)) : qrun (itm c s x) P ((Bno.el i).toNat + k) = qrun (itm c s x) P (Bno.el i).toNat := by
  have he := el_nat i (by omega)
  induction k with
  | zero => rfl
  | succ k ih =>
    have h1 := cB_band c (j := (Bno.el i).toNat + k) hi (by omega) (by omega)
    have h2 := cB_band s (j := (Bno.el i).toNat + k) hi (by omega) (by omega)
    have e : itm c s x ((Bno.el i).toNat + k) = none := by unfold itm; rw [h1, h2, if_neg h]
    rw [show (Bno.el i).toNat + (k + 1) = (Bno.el i).toNat + k + 1 from by omega]
    rw [qrun_none e]
    exact ih (by omega)
theorem edges_h {W w : World} {L : List Ast} (H : Hp W w L) : Calls Try.prog 85 #[] w fun en w' => ∃ g cap, en = .returned (.slice (some ⟨g, 0, none⟩) 22 cap) ∧ Hp W w' (rowA 3 .i64 g cap Bno.EL :: L) := by
  refine (Bno.Edges_row w).mono ?_
  rintro en w' ⟨g, cap, rfl, hg, r, b⟩
  exact ⟨g, cap, rfl, H.add_row b r hg⟩
attribute [local irreducible] qput qrun
set_option maxHeartbeats 2000000 in
set_option maxRecDepth 100000 in
theorem Put_h {W w : World} {L : List Ast} {e : Nat} {s : Enc.St} (H : Hp W w (encA e s :: L)) (ok : s.Ready) (small : s.k ≤ 500000000) {A : Option Addr} {ca : Nat} (hca : 512 ≤ ca) {uc us : Value} {x c st : List Int}
    (rl : Rd W L .i32 (.slice A 512 ca) x) (rc : Rd W L .i64 uc c) (rs : Rd W L .i64 us st) (p : Plan c st) (xl : x.length = 512) (xb : ∀ y ∈ x, -2147483648 ≤ y ∧ y < 2147483648) :
    Calls Try.prog 57 #[.pointer (some ⟨e, 0, none⟩), .slice A 512 ca, uc, us] w fun en w' => en = .returned (.int .i64 0) ∧ Hp W w' (encA e (qrun (itm c st x) (s, ones) 512).1 :: L) := by
  have RL := Lib.hid rl
  have RC := Lib.hid rc
  have RS := Lib.hid rs
  obtain ⟨B, cb, rfl⟩ := (rc w H.drop).form
  obtain ⟨C, cc, rfl⟩ := (rs w H.drop).form
  have QR := Lib.hid (qright_calls (rc w H.drop) (rs w H.drop) (by rw [p.hc.len]; decide) (by rw [p.hs.len]; decide))
  rw [plan_qrB p] at QR
  have P := Lib.hid p
  have XB := Lib.hid xb
  have lc := p.hc.len
  have ls := p.hs.len
  rw [lc] at RC QR ⊢
  rw [ls] at RS QR ⊢
  have H0 := Lib.hid H
  have OK := Lib.hid ok
  clear rl rc rs p xb H ok
  go_enter Try.func57, Try.ntmps57
  go_wp2_with fail
  refine QR.out.mono ?_
  rintro e1 w1 ⟨rfl, q, rfl⟩
  go_wp2_with fail
  refine (Mdl.New_h (H0.out.drewN q) 13 (by decide) (by decide)).mono ?_
  rintro e2 w2 ⟨m, rfl, h2⟩
  have H2 := Lib.hid h2
  clear h2
  go_wp2_with fail
  refine (edges_h H2.out).mono ?_
  rintro e3 w3 ⟨ge, ce, rfl, h3⟩
  have H3 : Hid (Hp W w3 (encA e s :: mdlA m ones false :: rowA 3 .i64 ge ce Bno.EL :: L)) := Lib.hid h3.up1.up2
  clear h3 H2
  go_wp2_with fail
  have e0 : (Bno.el 0).toNat = 0 := by decide
  have QZ : Hid (qrun (itm c st x) (s, ones) 0 = (s, ones)) := Lib.hid (by unfold qrun; rfl)
  go_loopw [36] (fun u wr => ∃ i : Nat, i ≤ 21 ∧ u = .int .i64 (i : Int) ∧ Hid (Hp W wr (encA e (qrun (itm c st x) (s, ones) (Bno.el i).toNat).1 :: mdlA m (qrun (itm c st x) (s, ones) (Bno.el i).toNat).2 false :: rowA 3 .i64 ge ce Bno.EL :: L))) (fun u _ => 21 - (intOf u).toNat)
  case atStart => exact ⟨0, by omega, rfl, Lib.hid (by rw [e0, QZ.out]; exact H3.out)⟩
  case round =>
    clear H3 H0 QR e0
    obtain ⟨i, hi, rfl, H⟩ := hrel
    by_cases hlt : i < 21
    · obtain ⟨ad, rfl, d1⟩ := (RC.out wr H.out.drop.drop.drop).cell (j := i) (by rw [lc]; exact hlt)
      obtain ⟨ad2, rfl, d2⟩ := (RS.out wr H.out.drop.drop.drop).cell (j := i) (by rw [ls]; exact hlt)
      have HC : Hid (c.getD i 0 = c[i]'(by rw [lc]; exact hlt)) := Lib.hid (Dig.getD_get c i _)
      have HS : Hid (st.getD i 0 = st[i]'(by rw [ls]; exact hlt)) := Lib.hid (Dig.getD_get st i _)
      have bc := P.out.hc.bd i (by rw [lc]; exact hlt)
      have bs := P.out.hs.bd i (by rw [ls]; exact hlt)
      have bd := P.out.d i hlt
      rw [HC.out, HS.out] at bd
      generalize c[i]'(by rw [lc]; exact hlt) = n at *
      generalize st[i]'(by rw [ls]; exact hlt) = t at *
      have ik : (i : Int) < 21 := by omega
      have TC := Lib.hid (told_calls n t)
      have EU := el_up i hlt
      have EB := el_nat i (by omega)
      have EB2 := el_nat (i + 1) (by omega)
      by_cases ht : t < n
      · rw [decide_eq_true ht] at TC
        have RE := Lib.hid (H.out.up2.row)
        have k1 := RE.out.cell (i := i) (by rw [Bno.EL_len]; omega)
        have k2 := RE.out.cell (i := i + 1) (by rw [Bno.EL_len]; omega)
        rw [Bno.EL_get i] at k1
        rw [Bno.EL_get (i + 1)] at k2
        obtain ⟨lo, hlo⟩ : ∃ lo : Nat, Bno.el i = lo := ⟨(Bno.el i).toNat, by omega⟩
        obtain ⟨hi', hhi⟩ : ∃ hi' : Nat, Bno.el (i + 1) = hi' := ⟨(Bno.el (i + 1)).toNat, by omega⟩
        have HLO := Lib.hid hlo
        have HHI := Lib.hid hhi
        rw [hlo] at k1 EU EB H
        rw [hhi] at k2 EU EB2
        rw [Int.toNat_natCast] at H
        clear hlo hhi
        obtain ⟨ad3, rfl, _⟩ := (RL.out wr H.out.drop.drop.drop).cell (j := 0) (by rw [xl]; omega)
        have y1 : (0 : Int) ≤ (lo : Int) := by omega
        have y2 : (lo : Int) ≤ (hi' : Int) := by omega
        have y3 : (hi' : Int) ≤ (ca : Int) := by omega
        go_wp2_with fail
        refine (TC.out _).mono ?_
        rintro e4 w4 ⟨rfl, q, rfl⟩
        go_wp2_with fail
        go_quiet (fail)
        have HN := Lib.hid ((H.out.drewN q).drewN nq)
        clear H RE k1 k2 d1 d2
        go_wp2_with fail
        go_loopw [60] (fun u w2 => ∃ j : Nat, j ≤ hi' - lo ∧ u = .int .i64 (j : Int) ∧ Hid (Hp W w2 (encA e (qrun (itm c st x) (s, ones) (lo + j)).1 :: mdlA m (qrun (itm c st x) (s, ones) (lo + j)).2 false :: rowA 3 .i64 ge ce Bno.EL :: L))) (fun u _ => (hi' - lo) - (intOf u).toNat)
        case atStart => exact ⟨0, by omega, rfl, Lib.hid (by rw [Nat.add_zero]; exact HN.out)⟩
        case round =>
          clear HN
          obtain ⟨j, hj, rfl, H⟩ := hrel
          by_cases hjl : j < hi' - lo
          · obtain ⟨ad4, ha4, dx⟩ := (RL.out _ H.out.drop.drop.drop).cell (j := lo + j) (by rw [xl]; omega)
            cases ha4
            obtain ⟨ad4, ha4, dt⟩ := (RS.out _ H.out.drop.drop.drop).cell (j := i) (by rw [ls]; exact hlt)
            cases ha4
            have et : st[i]'(by rw [ls]; exact hlt) = t := by rw [← HS.out]; exact (Dig.getD_get st i _).symm
            rw [et] at dt
            have bx := XB.out _ (List.getElem_mem (show lo + j < x.length by rw [xl]; omega))
            have HX : Hid (x.getD (lo + j) 0 = x[lo + j]'(by rw [xl]; omega)) := Lib.hid (Dig.getD_get x (lo + j) _)
            generalize x[lo + j]'(by rw [xl]; omega) = y at *
            rw [← addr_add] at dx
            have ij : (j : Int) < (hi' : Int) - (lo : Int) := by omega
            have NC := Lib.hid (fun w => near_calls y t.toNat (n - t).toNat bx (by omega) (by omega) w)
            rw [show ((t.toNat : Nat) : Int) = t from by omega, show (((n - t).toNat : Nat) : Int) = n - t from by omega] at NC
            have HB1 := Lib.hid (cB_band c (i := i) (j := lo + j) hlt (by rw [HLO.out]; omega) (by rw [HHI.out]; omega))
            have HB2 := Lib.hid (cB_band st (i := i) (j := lo + j) hlt (by rw [HLO.out]; omega) (by rw [HHI.out]; omega))
            have HI : Hid (itm c st x (lo + j) = some (nearV y t.toNat (n - t).toNat)) := Lib.hid (by unfold itm; rw [HB1.out, HB2.out, HC.out, HS.out, HX.out, if_pos ht])
            have HQ := Lib.hid (qrun_some (P := (s, ones)) HI.out)
            have IC := Lib.hid (itm_cls P.out (by omega) HI.out)
            have FQ := Lib.hid (qrun_fine (x := x) P.out (fine0 OK.out) (lo + j) (by omega))
            generalize nearV y t.toNat (n - t).toNat = v at *
            have w1 : IntKind.i64.wrap (n - t) = n - t := wrapI64 (by omega) (by omega)
            go_wp2_with fail
            have dt0 : wr.drew.cell? (ad2.add i) = some (.int .i64 t) := dt
            go_region_held3 (fun w' => w'.cell? (ad2.add i) = some (.int .i64 t)) (first | exact dt0 | exact dt5 | exact dt6) (first
              | (go_at_call 82
                 refine (NC.out _).mono ?_
                 rintro e5 w5 ⟨rfl, b5⟩
                 have H5 := Lib.hid (H.out.drew.keep b5)
                 have dt5 : w5.cell? (ad2.add i) = some (.int .i64 t) := by
                   obtain ⟨ad5, ha5, d5⟩ := (RS.out _ H5.out.drop.drop.drop).cell (j := i) (by rw [ls]; exact hlt)
                   cases ha5
                   rw [et] at d5
                   exact d5
                 clear b5)
              | (go_at_call 86
                 refine (put_h H5.out FQ.out.1 (by have := FQ.out.2; omega) v IC.out.2).mono ?_
                 rintro e6 w6 ⟨rfl, h6⟩
                 have H6 := Lib.hid h6
                 have dt6 : w6.cell? (ad2.add i) = some (.int .i64 t) := by
                   obtain ⟨ad5, ha5, d5⟩ := (RS.out _ H6.out.drop.drop.drop).cell (j := i) (by rw [ls]; exact hlt)
                   cases ha5
                   rw [et] at d5
                   exact d5
                 clear h6))
            go_wp2_with fail
            go_roundw
            case rel => exact ⟨j + 1, by omega, by push_cast; rfl, Lib.hid (by rw [show lo + (j + 1) = lo + j + 1 from by omega, HQ.out]; exact H6.out)⟩
            case measure =>
              show hi' - lo - ((j : Int) + 1).toNat < hi' - lo - ((j : Int)).toNat
              omega
          · obtain rfl : j = hi' - lo := by omega
            have eh : lo + (hi' - lo) = hi' := by omega
            rw [eh] at H
            go_wp2_with fail
            go_roundw
            case rel => exact ⟨i + 1, by omega, by push_cast; rfl, Lib.hid (by rw [HHI.out, Int.toNat_natCast]; exact H.out)⟩
            case measure => simp [intOf]; omega
      · rw [decide_eq_false ht] at TC
        have SK := Lib.hid (qrun_skip (c := c) (s := st) (x := x) (s, ones) hlt (by rw [HC.out, HS.out]; exact ht) (Bno.el (i + 1) - Bno.el i).toNat (by omega))
        rw [show (Bno.el i).toNat + (Bno.el (i + 1) - Bno.el i).toNat = (Bno.el (i + 1)).toNat from by omega] at SK
        go_wp2_with fail
        refine (TC.out _).mono ?_
        rintro e4 w4 ⟨rfl, q, rfl⟩
        go_wp2_with fail
        go_roundw
        case rel => exact ⟨i + 1, by omega, by push_cast; rfl, Lib.hid (by rw [SK.out]; exact H.out.drewN q)⟩
        case measure => simp [intOf]; omega
    · obtain rfl : i = 21 := by omega
      have e21 : (Bno.el 21).toNat = 512 := by decide
      rw [e21] at H
      go_wp2_with fail
      go_ret
      exact ⟨rfl, (H.out.up2.drop).up1.drop⟩
end Go.Proofs.Ytlbjoflmfboeeaa.Qnt

/-
  The walks of quant.Get and quant.Heard; no condition but those told.
-/
set_option linter.unusedVariables false
set_option linter.unusedSimpArgs false
namespace Go.Proofs.Ytlbjoflmfboeeaa.Qnt
open Go.RowKit Go.Proofs.Ytlbjoflmfboeeaa Go.Proofs.YtlbjoflmfboeeaaW.PrintWords Go.Proofs.YtlbjoflmfboeeaaW.PrintLast Go.Proofs.YtlbjoflmfboeeaaW.PrintMore Go.Proofs.Ytlbjoflmfboeeaa.Deco Go.Proofs.Ytlbjoflmfboeeaa.Ceil

theorem dfine0 {s : DSt} (ok : s.Ready) : DFine (s, ones) := ⟨ok, Mdl.good_new 13 (by decide) (by decide), rfl⟩
theorem gRun_told {c s : List Int} {seed : Int} {P : DSt × List Int} {j : Nat} {vs : List Int} {Q : DSt × List Int} (h : gRun c s seed P j = some (vs, Q)) (ht : cB s j < cB c j) :
    gRun c s seed P (j + 1) = (gOne Q (cB c j - cB s j).toNat).map fun r => (vs ++ [r.1 * 2 ^ (cB s j).toNat], r.2) := by
  show (gRun c s seed P j).bind _ = _
  rw [h, Option.bind_some, if_pos ht]
theorem gRun_not {c s : List Int} {seed : Int} {P : DSt × List Int} {j : Nat} {vs : List Int} {Q : DSt × List Int} (h : gRun c s seed P j = some (vs, Q)) (ht : ¬ cB s j < cB c j) :
    gRun c s seed P (j + 1) = some (vs ++ [nz seed j (cB c j)], Q) := by
  show (gRun c s seed P j).bind _ = _
  rw [h, Option.bind_some, if_neg ht]
theorem gRun_none {c s : List Int} {seed : Int} {P : DSt × List Int} {j : Nat} (h : gRun c s seed P j = none) (k : Nat) : gRun c s seed P (j + k) = none := by
  induction k with
  | zero => exact h
  | succ k ih =>
    show (gRun c s seed P (j + k)).bind _ = _
    rw [ih]; rfl
theorem get_some {W w : World} {L : List Ast} {d m : Nat} {P : DSt × List Int} (H : Hp W w (pdecA d P.1 :: mdlA m P.2 false :: L)) (f : DFine P) (small : P.1.n ≤ 700000000) (v : Nat) (hv : v ≤ 1000) {n : Int} {P' : DSt × List Int} (h : gOne P v = some (n, P')) :
    Calls Try.prog 83 #[.pointer (some ⟨d, 0, none⟩), .pointer (some ⟨m, 0, none⟩), .int .i64 v] w fun en w' => en = .returned (.tuple #[.int .i64 n, .bool true]) ∧ Hp W w' (pdecA d P'.1 :: mdlA m P'.2 false :: L) := by
  refine (get_h H f small v hv).mono ?_
  rintro en w' (⟨n', P2, e, h1, h2⟩ | ⟨e, _⟩)
  · rw [h] at e
    injection e with e
    injection e with e1 e2
    subst e1 e2
    exact ⟨h1, h2⟩
  · rw [h] at e; cases e
theorem get_none {W w : World} {L : List Ast} {d m : Nat} {P : DSt × List Int} (H : Hp W w (pdecA d P.1 :: mdlA m P.2 false :: L)) (f : DFine P) (small : P.1.n ≤ 700000000) (v : Nat) (hv : v ≤ 1000) (h : gOne P v = none) :
    Calls Try.prog 83 #[.pointer (some ⟨d, 0, none⟩), .pointer (some ⟨m, 0, none⟩), .int .i64 v] w fun en w' => en = .returned (.tuple #[.int .i64 0, .bool false]) ∧ ∃ P' : DSt × List Int, Hp W w' (pdecA d P'.1 :: mdlA m P'.2 false :: L) := by
  refine (get_h H f small v hv).mono ?_
  rintro en w' (⟨n', P2, e, h1, h2⟩ | ⟨e, h1, h2⟩)
  · rw [h] at e; cases e
  · exact ⟨h1, h2⟩
def LPost (W : World) (L : List Ast) (d : Nat) (t : TypeId) (kk : IntKind) (r : Option (List Int × (DSt × List Int))) (dec : DSt → Ast) (bad good : Value) (en : Ending) (w' : World) : Prop :=
  (∃ vs P g cap, r = some (vs, P) ∧ en = .returned (.tuple #[.slice (some ⟨g, 0, none⟩) 512 cap, good]) ∧ Hp W w' (rowA t kk g cap vs :: dec P.1 :: L)) ∨ (r = none ∧ en = .returned (.tuple #[.slice none 0 0, bad]) ∧ Hp W w' L)
attribute [local irreducible] gOne gRun nz Bno.bandOf
set_option maxHeartbeats 2000000 in
set_option maxRecDepth 100000 in
theorem Get_h {W w : World} {L : List Ast} {d : Nat} {s : DSt} (H : Hp W w (pdecA d s :: L)) (ok : s.Ready) (small : s.n ≤ 500000000) {uc us : Value} {c st : List Int} (seed : Int)
    (rc : Rd W L .i64 uc c) (rs : Rd W L .i64 us st) (p : Plan c st) :
    Calls Try.prog 54 #[.pointer (some ⟨d, 0, none⟩), uc, us, .int .u32 seed] w (LPost W L d 21 .i32 (gRun c st seed (s, ones) 512) (pdecA d) (.int .i64 3) (.int .i64 0)) := by
  have hm : ∀ w : World, (Instr.makeSlice 86 (.int .i64 512) (.int .i64 512)).run Try.prog w = .ok (.slice (some ⟨w.heap.size, 0, none⟩) 512 512) (w.alloc (.cells (madeCells #[.int .i32 0] 512) 21)) := fun w => run_make_row' 86 21 (.int .i32 0) 4 Try.underlying86 (by kernel_rfl) rfl .i64 .i64 512 (by omega) (by omega) w
  have RC := Lib.hid rc
  have RS := Lib.hid rs
  obtain ⟨B, cb, rfl⟩ := (rc w H.drop).form
  obtain ⟨C, cc, rfl⟩ := (rs w H.drop).form
  have QR := Lib.hid (qright_calls (rc w H.drop) (rs w H.drop) (by rw [p.hc.len]; decide) (by rw [p.hs.len]; decide))
  rw [plan_qrB p] at QR
  have P := Lib.hid p
  have lc := p.hc.len
  have ls := p.hs.len
  rw [lc] at RC QR ⊢
  rw [ls] at RS QR ⊢
  have H0 := Lib.hid H
  have OK := Lib.hid ok
  clear rc rs p H ok
  go_enter Try.func54, Try.ntmps54
  go_wp2_with fail
  refine QR.out.mono ?_
  rintro e1 w1 ⟨rfl, q, rfl⟩
  go_wp2_with fail
  refine (Mdl.New_h (H0.out.drewN q) 13 (by decide) (by decide)).mono ?_
  rintro e2 w2 ⟨m, rfl, h2⟩
  have H3 : Hid (Hp W (w2.alloc (.cells (madeCells #[.int .i32 0] 512) 21)) (pdecA d s :: mdlA m ones false :: rowA 21 .i32 w2.heap.size 512 (List.replicate 512 0) :: L)) := Lib.hid (h2.new_row 21 .i32 512 0 (by decide)).up1.up2
  clear h2 H0
  go_wp2_with fail
  generalize w2.heap.size = G at *
  go_loopw [32] (fun u wr => ∃ (k : Nat) (vs : List Int) (Q : DSt × List Int), k ≤ 512 ∧ u = .int .i64 (k : Int) ∧ Hid (gRun c st seed (s, ones) k = some (vs, Q)) ∧ Hid (Hp W wr (pdecA d Q.1 :: mdlA m Q.2 false :: rowA 21 .i32 G 512 (vs ++ List.replicate (512 - k) 0) :: L))) (fun u _ => 512 - (intOf u).toNat)
  case atStart => exact ⟨0, [], (s, ones), by omega, rfl, Lib.hid (by unfold gRun; rfl), H3⟩
  case round =>
    clear H3 QR
    obtain ⟨k, vs, Q, hk, rfl, HG, H⟩ := hrel
    have GF := Lib.hid (gRun_fine P.out (dfine0 OK.out) k hk HG.out)
    by_cases hlt : k < 512
    · obtain ⟨b21, hb, _, _⟩ := bnd_spec hlt
      have EC : Hid (cB c k = c.getD (bnd k) 0) := Lib.hid rfl
      have ES : Hid (cB st k = st.getD (bnd k) 0) := Lib.hid rfl
      have OC := Lib.hid (fun w => Bno.Of_calls (k : Int) (bnd k) w hb)
      have PA := P.out.at hlt
      generalize bnd k = b at *
      obtain ⟨ad, rfl, _⟩ := (RC.out wr H.out.drop.drop.drop).cell (j := b) (by rw [lc]; exact b21)
      obtain ⟨ad2, rfl, _⟩ := (RS.out wr H.out.drop.drop.drop).cell (j := b) (by rw [ls]; exact b21)
      have CD := Lib.hid (RC.out.cell (j := b) (by rw [lc]; exact b21))
      have SD := Lib.hid (RS.out.cell (j := b) (by rw [ls]; exact b21))
      have HC : Hid (cB c k = c[b]'(by rw [lc]; exact b21)) := Lib.hid (by rw [EC.out]; exact Dig.getD_get c b _)
      have HS : Hid (cB st k = st[b]'(by rw [ls]; exact b21)) := Lib.hid (by rw [ES.out]; exact Dig.getD_get st b _)
      rw [HC.out, HS.out] at PA
      have TN := Lib.hid (fun h => gRun_not HG.out h)
      have TY := Lib.hid (fun h => gRun_told HG.out h)
      rw [HC.out, HS.out] at TN TY
      clear EC ES hb
      have hl := GF.out.2.2.2.1
      have PS := Lib.hid (fun v : Int => Erg.pad_set vs (512 - (k + 1)) v)
      rw [hl, show 512 - (k + 1) + 1 = 512 - k from by omega] at PS
      have ik : (k : Int) < 512 := by omega
      have ib : (b : Int) < 21 := by omega
      have TC : Hid (∀ w, Calls Try.prog 81 #[.int .i64 (c[b]'(by rw [lc]; exact b21)), .int .i64 (st[b]'(by rw [ls]; exact b21))] w fun e w' => e = .returned (.bool (decide (st[b]'(by rw [ls]; exact b21) < c[b]'(by rw [lc]; exact b21)))) ∧ ∃ n, w' = w.drewN n) := Lib.hid (fun w => (told_calls _ _ w).mono fun _ _ ⟨he, m, hm⟩ => ⟨he, m, hm⟩)
      by_cases ht : st[b]'(by rw [ls]; exact b21) < c[b]'(by rw [lc]; exact b21)
      · have TY2 := Lib.hid (TY.out ht)
        rw [decide_eq_true ht] at TC
        generalize c[b]'(by rw [lc]; exact b21) = n at *
        generalize st[b]'(by rw [ls]; exact b21) = t at *
        obtain ⟨v, hv⟩ : ∃ v : Nat, (n - t).toNat = v := ⟨_, rfl⟩
        obtain ⟨tn, rfl⟩ : ∃ tn : Nat, t = (tn : Int) := ⟨t.toNat, by omega⟩
        have hv2 : n - (tn : Int) = (v : Int) := by omega
        rw [hv, Int.toNat_natCast] at TY2
        have w1 : IntKind.i64.wrap (v : Int) = (v : Int) := wrapI64 (by omega) (by omega)
        cases hg : gOne Q v with
        | none =>
          rw [hg] at TY2
          have GN : Hid (gRun c st seed (s, ones) 512 = none) := Lib.hid (by
            have := gRun_none (k := 512 - (k + 1)) (h := TY2.out)
            rwa [show k + 1 + (512 - (k + 1)) = 512 from by omega] at this)
          go_wp2_with fail
          refine (OC.out _).mono ?_
          rintro e4 w4 ⟨rfl, b4⟩
          have H4 := Lib.hid (H.out.keep b4)
          have d1 : w4.cell? (ad.add b) = some (.int .i64 n) := CD.out w4 H4.out.drop.drop.drop
          have d2 : w4.cell? (ad2.add b) = some (.int .i64 tn) := SD.out w4 H4.out.drop.drop.drop
          clear b4 H
          go_wp2_with fail
          go_quiet ((go_at_call 81; exact Calls.quiet_of (TC.out _)))
          have H5 := Lib.hid (H4.out.drewN nq)
          have HG5 := Lib.hid hg
          clear hg
          have d1 : (w4.drewN nq).cell? (ad.add b) = some (.int .i64 n) := d1
          have d2 : (w4.drewN nq).cell? (ad2.add b) = some (.int .i64 tn) := d2
          go_wp2_with fail
          have d3 : (w4.drewN nq).drew.cell? (ad.add b) = some (.int .i64 n) := d1
          have d4 : (w4.drewN nq).drew.cell? (ad2.add b) = some (.int .i64 tn) := d2
          go_region_held3 (fun w' => w'.cell? (ad.add b) = some (.int .i64 n) ∧ w'.cell? (ad2.add b) = some (.int .i64 tn)) (first | exact ⟨d3, d4⟩ | exact ⟨d5, d6⟩) (first
            | (go_at_call 83
               refine (get_none H5.out.drew GF.out.1 (by have := GF.out.2.1; omega) v (by omega) HG5.out).mono ?_
               rintro e6 w6 ⟨rfl, P6, h6⟩
               have H6 := Lib.hid h6
               have d5 := CD.out w6 h6.drop.drop.drop
               have d6 := SD.out w6 h6.drop.drop.drop
               clear h6))
          go_wp2_with fail
          go_ret2
          exact .inr ⟨GN.out, rfl, H6.out.drop.drop.drop⟩
        | some r =>
          obtain ⟨z, Q'⟩ := r
          rw [hg, Option.map_some] at TY2
          have GF2 := Lib.hid (gOne_fine GF.out.1 hg)
          have SB := Lib.hid (shift_bd (s := tn) (c := n.toNat) GF2.out.2.2.2.1 GF2.out.2.2.2.2 (by omega) (by omega))
          have HG5 := Lib.hid hg
          clear hg
          go_wp2_with fail
          refine (OC.out _).mono ?_
          rintro e4 w4 ⟨rfl, b4⟩
          have H4 := Lib.hid (H.out.keep b4)
          have d1 : w4.cell? (ad.add b) = some (.int .i64 n) := CD.out w4 H4.out.drop.drop.drop
          have d2 : w4.cell? (ad2.add b) = some (.int .i64 tn) := SD.out w4 H4.out.drop.drop.drop
          clear b4 H
          go_wp2_with fail
          go_quiet ((go_at_call 81; exact Calls.quiet_of (TC.out _)))
          have H5 := Lib.hid (H4.out.drewN nq)
          have d1 : (w4.drewN nq).cell? (ad.add b) = some (.int .i64 n) := d1
          have d2 : (w4.drewN nq).cell? (ad2.add b) = some (.int .i64 tn) := d2
          go_wp2_with fail
          have d3 : (w4.drewN nq).drew.cell? (ad.add b) = some (.int .i64 n) := d1
          have d4 : (w4.drewN nq).drew.cell? (ad2.add b) = some (.int .i64 tn) := d2
          go_region_held3 (fun w' => w'.cell? (ad.add b) = some (.int .i64 n) ∧ w'.cell? (ad2.add b) = some (.int .i64 tn)) (first | exact ⟨d3, d4⟩ | exact ⟨d5, d6⟩) (first
            | (go_at_call 83
               refine (get_some H5.out.drew GF.out.1 (by have := GF.out.2.1; omega) v (by omega) HG5.out).mono ?_
               rintro e6 w6 ⟨rfl, h6⟩
               have H6 := Lib.hid h6
               have d5 := CD.out w6 h6.drop.drop.drop
               have d6 := SD.out w6 h6.drop.drop.drop
               clear h6))
          have RR := Lib.hid (H6.out.up2.row)
          have dk := RR.out.cell (i := k) (by rw [List.length_append, hl, List.length_replicate]; omega)
          have fk := RR.out.free k
          generalize (vs ++ List.replicate (512 - k) 0)[k]'(by rw [List.length_append, hl, List.length_replicate]; omega) = y0 at *
          obtain ⟨z2, hz2⟩ : ∃ z2, z * 2 ^ tn = z2 := ⟨_, rfl⟩
          have HZ2 := Lib.hid hz2
          rw [hz2] at SB TY2
          have q1 : IntKind.i64.wrap (z * 2 ^ tn) = z2 := by rw [hz2]; exact wrapI64 (by have := SB.out; omega) (by have := SB.out; omega)
          have q2 : IntKind.i32.wrap z2 = z2 := by rw [IntKind.wrap_i32]; have := SB.out; omega
          clear hz2 RR d5 d6 d3 d4
          go_wp2_with fail
          go_roundw
          case rel => exact ⟨k + 1, vs ++ [z2], Q', by omega, by push_cast; rfl, TY2, Lib.hid (by rw [← PS.out]; exact (H6.out.up2.set k z2).down2)⟩
          case measure =>
            show 512 - ((k : Int) + 1).toNat < 512 - (k : Int).toNat
            omega
      · have TN2 := Lib.hid (TN.out ht)
        rw [decide_eq_false ht] at TC
        have NB := nz_bd seed k (c[b]'(by rw [lc]; exact b21))
        have NC := Lib.hid (fun w => Noise_calls seed k (c[b]'(by rw [lc]; exact b21)) w)
        generalize c[b]'(by rw [lc]; exact b21) = n at *
        generalize st[b]'(by rw [ls]; exact b21) = t at *
        generalize nz seed k n = z at *
        go_wp2_with fail
        refine (OC.out _).mono ?_
        rintro e4 w4 ⟨rfl, b4⟩
        have H4 := Lib.hid (H.out.keep b4)
        have d1 : w4.cell? (ad.add b) = some (.int .i64 n) := CD.out w4 H4.out.drop.drop.drop
        have d2 : w4.cell? (ad2.add b) = some (.int .i64 t) := SD.out w4 H4.out.drop.drop.drop
        clear b4 H
        go_wp2_with fail
        go_quiet ((go_at_call 81; exact Calls.quiet_of (TC.out _)))
        have d1 : (w4.drewN nq).cell? (ad.add b) = some (.int .i64 n) := d1
        go_wp2_with fail
        refine (NC.out _).mono ?_
        rintro e5 w5 ⟨rfl, m5, rfl⟩
        have RR := Lib.hid ((H4.out.drewN (nq + m5)).up2.row)
        have dk := RR.out.cell (i := k) (by rw [List.length_append, hl, List.length_replicate]; omega)
        have fk := RR.out.free k
        generalize (vs ++ List.replicate (512 - k) 0)[k]'(by rw [List.length_append, hl, List.length_replicate]; omega) = y0 at *
        clear RR d1 d2
        go_wp2_with fail
        go_roundw
        case rel => exact ⟨k + 1, vs ++ [z], Q, by omega, by push_cast; rfl, TN2, Lib.hid (by rw [← PS.out]; exact ((H4.out.drewN _).up2.set k z).down2)⟩
        case measure =>
          show 512 - ((k : Int) + 1).toNat < 512 - (k : Int).toNat
          omega
    · obtain rfl : k = 512 := by omega
      go_wp2_with fail
      go_ret2
      have h5 := H.out
      rw [Nat.sub_self, show List.replicate 0 (0 : Int) = [] from rfl, List.append_nil] at h5
      exact .inl ⟨_, _, _, _, HG.out, rfl, h5.up1.drop.up1⟩
end Go.Proofs.Ytlbjoflmfboeeaa.Qnt

/-
  The walk of quant.Heard; no condition but those told.
-/
set_option linter.unusedVariables false
set_option linter.unusedSimpArgs false
namespace Go.Proofs.Ytlbjoflmfboeeaa.Qnt
open Go.RowKit Go.Proofs.Ytlbjoflmfboeeaa Go.Proofs.YtlbjoflmfboeeaaW.PrintWords Go.Proofs.YtlbjoflmfboeeaaW.PrintLast Go.Proofs.YtlbjoflmfboeeaaW.PrintMore Go.Proofs.Ytlbjoflmfboeeaa.Deco Go.Proofs.Ytlbjoflmfboeeaa.Ceil

attribute [local irreducible] nz Bno.bandOf hv nearV
set_option maxHeartbeats 2000000 in
set_option maxRecDepth 100000 in
theorem Heard_h {W w : World} {L : List Ast} (H : Hp W w L) {A : Option Addr} {ca : Nat} {uc us : Value} {x c st : List Int} (seed : Int)
    (rl : Rd W L .i32 (.slice A 512 ca) x) (rc : Rd W L .i64 uc c) (rs : Rd W L .i64 us st) (p : Plan c st) (xl : x.length = 512) (xb : ∀ y ∈ x, -2147483648 ≤ y ∧ y < 2147483648) :
    Calls Try.prog 51 #[.slice A 512 ca, uc, us, .int .u32 seed] w fun en w' => ∃ g cap, en = .returned (.tuple #[.slice (some ⟨g, 0, none⟩) 512 cap, .int .i64 0]) ∧ Hp W w' (rowA 21 .i32 g cap (fillTo (hv c st x seed) 512 512) :: L) := by
  have hm : ∀ w : World, (Instr.makeSlice 86 (.int .i64 512) (.int .i64 512)).run Try.prog w = .ok (.slice (some ⟨w.heap.size, 0, none⟩) 512 512) (w.alloc (.cells (madeCells #[.int .i32 0] 512) 21)) := fun w => run_make_row' 86 21 (.int .i32 0) 4 Try.underlying86 (by kernel_rfl) rfl .i64 .i64 512 (by omega) (by omega) w
  have RL := Lib.hid rl
  have RC := Lib.hid rc
  have RS := Lib.hid rs
  obtain ⟨B, cb, rfl⟩ := (rc w H).form
  obtain ⟨C, cc, rfl⟩ := (rs w H).form
  have QR := Lib.hid (qright_calls (rc w H) (rs w H) (by rw [p.hc.len]; decide) (by rw [p.hs.len]; decide))
  rw [plan_qrB p] at QR
  have P := Lib.hid p
  have XB := Lib.hid xb
  have lc := p.hc.len
  have ls := p.hs.len
  rw [lc] at RC QR ⊢
  rw [ls] at RS QR ⊢
  have H0 := Lib.hid H
  clear rl rc rs p H xb
  go_enter Try.func51, Try.ntmps51
  go_wp2_with fail
  refine QR.out.mono ?_
  rintro e1 w1 ⟨rfl, q, rfl⟩
  have H3 : Hid (Hp W ((w.drewN q).alloc (.cells (madeCells #[.int .i32 0] 512) 21)) (rowA 21 .i32 w.heap.size 512 (List.replicate 512 0) :: L)) := Lib.hid ((H0.out.drewN q).new_row 21 .i32 512 0 (by decide))
  rw [← fillTo_zero (hv c st x seed)] at H3
  clear H0 QR
  go_wp2_with fail
  have hs : (w.drewN q).heap.size = w.heap.size := rfl
  generalize w.heap.size = G at *
  go_loopw [26] (fun u wr => ∃ k : Nat, k ≤ 512 ∧ u = .int .i64 (k : Int) ∧ Hid (Hp W wr (rowA 21 .i32 G 512 (fillTo (hv c st x seed) 512 k) :: L))) (fun u _ => 512 - (intOf u).toNat)
  case atStart => exact ⟨0, by omega, rfl, H3⟩
  case round =>
    clear H3 hs
    obtain ⟨k, hk, rfl, H⟩ := hrel
    by_cases hlt : k < 512
    · obtain ⟨b21, hb, _, _⟩ := bnd_spec hlt
      have EC : Hid (cB c k = c.getD (bnd k) 0) := Lib.hid rfl
      have ES : Hid (cB st k = st.getD (bnd k) 0) := Lib.hid rfl
      have OC := Lib.hid (fun w => Bno.Of_calls (k : Int) (bnd k) w hb)
      have PA := P.out.at hlt
      generalize bnd k = b at *
      obtain ⟨ad, rfl, _⟩ := (RC.out wr H.out.drop).cell (j := b) (by rw [lc]; exact b21)
      obtain ⟨ad2, rfl, _⟩ := (RS.out wr H.out.drop).cell (j := b) (by rw [ls]; exact b21)
      obtain ⟨ad3, rfl, _⟩ := (RL.out wr H.out.drop).cell (j := k) (by rw [xl]; exact hlt)
      have CD := Lib.hid (RC.out.cell (j := b) (by rw [lc]; exact b21))
      have SD := Lib.hid (RS.out.cell (j := b) (by rw [ls]; exact b21))
      have LD := (show Rd W L .i32 (.slice (some ad3) x.length ca) x by rw [xl]; exact RL.out).cell (j := k) (by rw [xl]; exact hlt) wr H.out.drop
      have bx := XB.out _ (List.getElem_mem (show k < x.length by rw [xl]; exact hlt))
      have HX : Hid (x.getD k 0 = x[k]'(by rw [xl]; exact hlt)) := Lib.hid (Dig.getD_get x k _)
      have HC : Hid (cB c k = c[b]'(by rw [lc]; exact b21)) := Lib.hid (by rw [EC.out]; exact Dig.getD_get c b _)
      have HS : Hid (cB st k = st[b]'(by rw [ls]; exact b21)) := Lib.hid (by rw [ES.out]; exact Dig.getD_get st b _)
      rw [HC.out, HS.out] at PA
      clear EC ES hb
      have PS := Lib.hid (fillTo_set (hv c st x seed) 512 k)
      have ik : (k : Int) < 512 := by omega
      have ib : (b : Int) < 21 := by omega
      generalize c[b]'(by rw [lc]; exact b21) = n at *
      generalize st[b]'(by rw [ls]; exact b21) = t at *
      generalize x[k]'(by rw [xl]; exact hlt) = y at *
      have TC : Hid (∀ w, Calls Try.prog 81 #[.int .i64 n, .int .i64 t] w fun e w' => e = .returned (.bool (decide (t < n))) ∧ ∃ n, w' = w.drewN n) := Lib.hid (fun w => (told_calls _ _ w).mono fun _ _ ⟨he, m, hm⟩ => ⟨he, m, hm⟩)
      by_cases ht : t < n
      · rw [decide_eq_true ht] at TC
        obtain ⟨v, hvv⟩ : ∃ v : Nat, (n - t).toNat = v := ⟨_, rfl⟩
        obtain ⟨tn, rfl⟩ : ∃ tn : Nat, t = (tn : Int) := ⟨t.toNat, by omega⟩
        have hv2 : n - (tn : Int) = (v : Int) := by omega
        have w1 : IntKind.i64.wrap (v : Int) = (v : Int) := wrapI64 (by omega) (by omega)
        have NC := Lib.hid (fun w => near_calls y tn v bx (by omega) (by omega) w)
        have NB := nearV_bd y tn v
        have SB := Lib.hid (shift_bd (s := tn) (c := n.toNat) NB.1 NB.2 (by omega) (by omega))
        have HI : Hid (itm c st x k = some (nearV y tn v)) := Lib.hid (by unfold itm; rw [HC.out, HS.out, HX.out, if_pos ht, hvv, Int.toNat_natCast])
        have HV : Hid (hv c st x seed k = nearV y tn v * 2 ^ tn) := Lib.hid (by unfold Qnt.hv; rw [HI.out, HS.out, Int.toNat_natCast])
        clear NB
        generalize nearV y tn v = z at *
        obtain ⟨z2, hz2⟩ : ∃ z2, z * 2 ^ tn = z2 := ⟨_, rfl⟩
        rw [hz2] at SB HV
        have q1 : IntKind.i64.wrap (z * 2 ^ tn) = z2 := by rw [hz2]; exact wrapI64 (by have := SB.out; omega) (by have := SB.out; omega)
        have q2 : IntKind.i32.wrap z2 = z2 := by rw [IntKind.wrap_i32]; have := SB.out; omega
        rw [HV.out] at PS
        clear hz2 hvv
        go_wp2_with fail
        refine (OC.out _).mono ?_
        rintro e4 w4 ⟨rfl, b4⟩
        have H4 := Lib.hid (H.out.keep b4)
        have d1 : w4.cell? (ad.add b) = some (.int .i64 n) := CD.out w4 H4.out.drop
        have d2 : w4.cell? (ad2.add b) = some (.int .i64 tn) := SD.out w4 H4.out.drop
        clear b4 H LD
        go_wp2_with fail
        go_quiet ((go_at_call 81; exact Calls.quiet_of (TC.out _)))
        have H5 := Lib.hid (H4.out.drewN nq)
        have d3 : (w4.drewN nq).drew.cell? (ad.add b) = some (.int .i64 n) := d1
        have d4 : (w4.drewN nq).drew.cell? (ad2.add b) = some (.int .i64 tn) := d2
        go_wp2_with fail
        go_region_held3 (fun w' => w'.cell? (ad.add b) = some (.int .i64 n) ∧ w'.cell? (ad2.add b) = some (.int .i64 tn)) (first | exact ⟨d3, d4⟩ | exact ⟨d5, d6⟩ | exact ⟨d7, d8⟩) (first
          | (go_at_call 82
             refine (NC.out _).mono ?_
             rintro e6 w6 ⟨rfl, b6⟩
             have H6 := Lib.hid (H5.out.drew.keep b6)
             have d5 := CD.out w6 H6.out.drop
             have d6 := SD.out w6 H6.out.drop
             have H7 := Lib.hid (H6.out.set k z2)
             have d7 := CD.out _ H7.out.drop
             have d8 := SD.out _ H7.out.drop
             have RR := H6.out.row
             have dk := RR.cell (i := k) (by rw [fillTo_len]; exact hlt)
             have fk := RR.free k
             clear b6 RR))
        go_wp2_with fail
        go_roundw
        case rel => exact ⟨k + 1, by omega, by push_cast; rfl, Lib.hid (by rw [← PS.out]; exact H7.out)⟩
        case measure =>
          show 512 - ((k : Int) + 1).toNat < 512 - (k : Int).toNat
          omega
      · rw [decide_eq_false ht] at TC
        have NB := nz_bd seed k n
        have NC := Lib.hid (fun w => Noise_calls seed k n w)
        have HV : Hid (hv c st x seed k = nz seed k n) := Lib.hid (by unfold Qnt.hv itm; rw [HC.out, HS.out, if_neg ht])
        rw [HV.out] at PS
        generalize nz seed k n = z at *
        go_wp2_with fail
        refine (OC.out _).mono ?_
        rintro e4 w4 ⟨rfl, b4⟩
        have H4 := Lib.hid (H.out.keep b4)
        have d1 : w4.cell? (ad.add b) = some (.int .i64 n) := CD.out w4 H4.out.drop
        have d2 : w4.cell? (ad2.add b) = some (.int .i64 t) := SD.out w4 H4.out.drop
        clear b4 H LD
        go_wp2_with fail
        go_quiet ((go_at_call 81; exact Calls.quiet_of (TC.out _)))
        have d1 : (w4.drewN nq).cell? (ad.add b) = some (.int .i64 n) := d1
        go_wp2_with fail
        refine (NC.out _).mono ?_
        rintro e5 w5 ⟨rfl, m5, rfl⟩
        have RR := Lib.hid ((H4.out.drewN (nq + m5)).row)
        have dk := RR.out.cell (i := k) (by rw [fillTo_len]; exact hlt)
        have fk := RR.out.free k
        clear RR d1 d2
        go_wp2_with fail
        go_roundw
        case rel => exact ⟨k + 1, by omega, by push_cast; rfl, Lib.hid (by rw [← PS.out]; exact (H4.out.drewN _).set k z)⟩
        case measure =>
          show 512 - ((k : Int) + 1).toNat < 512 - (k : Int).toNat
          omega
    · obtain rfl : k = 512 := by omega
      go_wp2_with fail
      go_ret2
      exact ⟨_, _, rfl, H.out⟩
end Go.Proofs.Ytlbjoflmfboeeaa.Qnt

/-
  The walks of the document's Round, near, Bits, Noise, power; no condition but those told.
-/
set_option linter.unusedVariables false
set_option linter.unusedSimpArgs false
namespace Go.Proofs.Ytlbjoflmfboeeaa.Qnt
open Go.RowKit Go.Proofs.Ytlbjoflmfboeeaa Go.Proofs.YtlbjoflmfboeeaaW.PrintWords Go.Proofs.YtlbjoflmfboeeaaW.PrintLast Go.Proofs.YtlbjoflmfboeeaaW.PrintMore Go.Proofs.Ytlbjoflmfboeeaa.Deco Go.Proofs.Ytlbjoflmfboeeaa.Ceil

set_option maxRecDepth 100000 in
theorem rpower_calls (k : Nat) (hk : k ≤ 60) (w : World) : Calls Try.prog 84 #[.int .i64 k] w fun e w' => e = .returned (.int .i64 (2 ^ k)) ∧ w' = w := by
  have h1 := pw_pos k
  have h2 : (2 : Int) ^ k ≤ 2 ^ 60 := pw_le hk
  have e60 : (2 : Int) ^ 60 = 1152921504606846976 := by decide
  have w1 : IntKind.i64.wrap (2 ^ k) = 2 ^ k := wrapI64 (by omega) (by omega)
  go_enter Try.func84, Try.ntmps84
  go_wp2_with fail
  go_ret
  exact ⟨rfl, rfl⟩
set_option maxRecDepth 100000 in
theorem rNoise_calls (seed line n : Int) (h : n ≤ 26) (w : World) : Calls Try.prog 59 #[.int .u32 seed, .int .i64 line, .int .i64 n] w fun e w' => e = .returned (.int .i64 (nz seed line n)) ∧ w' = w := by
  by_cases h3 : n < 3
  · have e : nz seed line n = 0 := by unfold nz; rw [if_pos (.inl h3)]
    rw [e]
    go_enter Try.func59, Try.ntmps59
    go_wp2_with fail
    go_ret
    exact ⟨rfl, rfl⟩
  · obtain ⟨m, rfl⟩ : ∃ m : Nat, n = (m : Int) + 2 := ⟨(n - 2).toNat, by omega⟩
    have h1 := pw_pos m
    have h2 : (2 : Int) ^ m ≤ 2 ^ 24 := pw_le (by omega)
    have e24 : (2 : Int) ^ 24 = 16777216 := by decide
    have HN : Hid (nz seed line ((m : Int) + 2) = if nzc seed line = 1 then -(2 ^ m) else 2 ^ m) := Lib.hid (by unfold nz; rw [if_neg (by omega), show ((m : Int) + 2 - 2).toNat = m from by omega])
    have HZ : Hid ((seed * 2654435761 + line % 4294967296 * 40503 + 12345) % 4294967296 * 1664525 % 4294967296 / 2147483648 = nzc seed line) := Lib.hid (by unfold nzc nzb; omega)
    obtain ⟨g, hg⟩ : ∃ g : Int, (2 : Int) ^ m = g := ⟨_, rfl⟩
    rw [hg] at h1 h2 HN
    have w1 : IntKind.i64.wrap g = g := wrapI64 (by omega) (by omega)
    have w2 : IntKind.i64.wrap (-g) = -g := wrapI64 (by omega) (by omega)
    have w3 : IntKind.i64.wrap ((m : Int) + 2 - 2) = (m : Int) := wrapI64 (by omega) (by omega) |>.trans (by omega)
    by_cases hc : nzc seed line = 1
    · rw [if_pos hc] at HN
      have hb : ((seed * 2654435761 + line % 4294967296 * 40503 + 12345) % 4294967296 * 1664525 % 4294967296 / 2147483648 == 1) = true := by rw [HZ.out, hc]; rfl
      go_enter Try.func59, Try.ntmps59
      go_wp2_with fail
      go_ret
      rw [HN.out]
      exact ⟨rfl, rfl⟩
    · rw [if_neg hc] at HN
      have hb : ((seed * 2654435761 + line % 4294967296 * 40503 + 12345) % 4294967296 * 1664525 % 4294967296 / 2147483648 == 1) = false := by rw [HZ.out, beq_eq_false_iff_ne]; exact hc
      go_enter Try.func59, Try.ntmps59
      go_wp2_with fail
      go_ret
      rw [HN.out]
      exact ⟨rfl, rfl⟩
/-- Halved till nothing is left. -/
theorem half_lt (a : Nat) (h : a ≠ 0) : a / 2 < a := by omega
def bl : Nat → Nat
  | 0 => 0
  | a + 1 => bl ((a + 1) / 2) + 1
decreasing_by exact half_lt (a + 1) (by omega)
theorem bl_zero : bl 0 = 0 := by unfold bl; rfl
theorem bl_pos {a : Nat} (h : a ≠ 0) : bl a = bl (a / 2) + 1 := by
  obtain ⟨b, rfl⟩ : ∃ b, a = b + 1 := ⟨a - 1, by omega⟩
  conv => lhs; unfold bl
theorem bl_log (a : Nat) : bl a = if a = 0 then 0 else a.log2 + 1 := by
  induction a using Nat.strongRecOn with
  | _ a ih =>
    by_cases h : a = 0
    · subst h; rw [bl_zero]; rfl
    · rw [bl_pos h, ih (a / 2) (by omega), if_neg h]
      by_cases h2 : a / 2 = 0
      · rw [if_pos h2, show a = 1 from by omega]; rfl
      · rw [if_neg h2]
        congr 1
        conv => rhs; rw [Nat.log2_def, if_pos (by omega)]
theorem bl_cls (n : Int) : bl n.natAbs = cls n := by
  rw [bl_log]; unfold cls
  by_cases h : n = 0
  · rw [if_pos h, if_pos (by omega)]
  · rw [if_neg h, if_neg (by omega)]
set_option maxRecDepth 100000 in
theorem rBits_calls (n : Int) (h : n.natAbs < 1000000000) (w : World) : Calls Try.prog 88 #[.int .i64 n] w fun e w' => e = .returned (.int .i64 (cls n)) ∧ w' = w := by
  have HB := Lib.hid (bl_cls n)
  obtain ⟨a, ha⟩ : ∃ a : Nat, n.natAbs = a := ⟨_, rfl⟩
  rw [ha] at HB h
  by_cases h0 : n < 0
  · have w1 : IntKind.i64.wrap (-n) = -n := wrapI64 (by omega) (by omega)
    go_enter Try.func88, Try.ntmps88
    go_wp2_with fail
    go_loopw [0, 3] (fun u v wr => ∃ (b k : Nat), u = .int .i64 (b : Int) ∧ v = .int .i64 (k : Int) ∧ b ≤ a ∧ k + b ≤ a ∧ Hid (bl a = k + bl b) ∧ wr = w) (fun u _ _ => (intOf u).toNat)
    case atStart => exact ⟨a, 0, by first | rfl | (rw [show -n = (a : Int) from by omega]), rfl, by omega, by omega, Lib.hid (by omega), rfl⟩
    case round =>
      obtain ⟨b, k, rfl, rfl, hb, hkb, HL, rfl⟩ := hrel
      by_cases hz : b = 0
      · subst hz
        have HR : Hid ((cls n : Int) = (k : Int)) := Lib.hid (by rw [← HB.out, HL.out, bl_zero]; omega)
        go_wp2_with fail
        go_ret
        rw [HR.out]
        exact ⟨rfl, rfl⟩
      · have HL2 : Hid (bl a = (k + 1) + bl (b / 2)) := Lib.hid (by rw [HL.out, bl_pos hz]; omega)
        have e2 : Int.tdiv (b : Int) 2 = ((b / 2 : Nat) : Int) := by rw [Int.tdiv_eq_ediv_of_nonneg (by omega)]; exact (Int.natCast_ediv b 2).symm
        have w2 : IntKind.i64.wrap ((b / 2 : Nat) : Int) = ((b / 2 : Nat) : Int) := wrapI64 (by omega) (by omega)
        have i0 : (0 : Int) < (b : Int) := by omega
        obtain ⟨b2, hb2⟩ : ∃ b2, b / 2 = b2 := ⟨_, rfl⟩
        rw [hb2] at HL2 e2 w2
        have l1 : b2 < b := by omega
        clear hb2
        go_wp2_with fail
        go_roundw
        case rel => exact ⟨b2, k + 1, rfl, by push_cast; rfl, by omega, by omega, HL2, trivial⟩
        case measure =>
          show (b2 : Int).toNat < (b : Int).toNat
          omega
  · obtain rfl : n = (a : Int) := by omega
    go_enter Try.func88, Try.ntmps88
    go_wp2_with fail
    go_loopw [0, 3] (fun u v wr => ∃ (b k : Nat), u = .int .i64 (b : Int) ∧ v = .int .i64 (k : Int) ∧ b ≤ a ∧ k + b ≤ a ∧ Hid (bl a = k + bl b) ∧ wr = w) (fun u _ _ => (intOf u).toNat)
    case atStart => exact ⟨a, 0, by first | rfl | (rw [show -n = (a : Int) from by omega]), rfl, by omega, by omega, Lib.hid (by omega), rfl⟩
    case round =>
      obtain ⟨b, k, rfl, rfl, hb, hkb, HL, rfl⟩ := hrel
      by_cases hz : b = 0
      · subst hz
        have HR : Hid ((cls (a : Int) : Int) = (k : Int)) := Lib.hid (by rw [← HB.out, HL.out, bl_zero]; omega)
        go_wp2_with fail
        go_ret
        rw [HR.out]
        exact ⟨rfl, rfl⟩
      · have HL2 : Hid (bl a = (k + 1) + bl (b / 2)) := Lib.hid (by rw [HL.out, bl_pos hz]; omega)
        have e2 : Int.tdiv (b : Int) 2 = ((b / 2 : Nat) : Int) := by rw [Int.tdiv_eq_ediv_of_nonneg (by omega)]; exact (Int.natCast_ediv b 2).symm
        have w2 : IntKind.i64.wrap ((b / 2 : Nat) : Int) = ((b / 2 : Nat) : Int) := wrapI64 (by omega) (by omega)
        have i0 : (0 : Int) < (b : Int) := by omega
        obtain ⟨b2, hb2⟩ : ∃ b2, b / 2 = b2 := ⟨_, rfl⟩
        rw [hb2] at HL2 e2 w2
        have l1 : b2 < b := by omega
        clear hb2
        go_wp2_with fail
        go_roundw
        case rel => exact ⟨b2, k + 1, rfl, by push_cast; rfl, by omega, by omega, HL2, trivial⟩
        case measure =>
          show (b2 : Int).toNat < (b : Int).toNat
          omega
theorem tmod_lt (x p : Int) (hp : 0 < p) : -p < Int.tmod x p ∧ Int.tmod x p < p := by
  have h1 := Int.tmod_lt_of_pos x hp
  have h2 := Int.tmod_lt_of_pos (-x) hp
  rw [Int.neg_tmod] at h2
  omega
theorem euclid (n d : Int) (hd : 0 < d) : (Int.tmod n d < 0 → Int.tdiv n d - 1 = n / d ∧ Int.tmod n d + d = n % d) ∧ (¬ Int.tmod n d < 0 → Int.tdiv n d = n / d ∧ Int.tmod n d = n % d) := by
  have hb := tmod_lt n d hd
  have he := Int.mul_tdiv_add_tmod n d
  refine ⟨fun h => ?_, fun h => ?_⟩
  · have := (Int.ediv_emod_unique (a := n) (b := d) (r := Int.tmod n d + d) (q := Int.tdiv n d - 1) hd).2 ⟨by rw [Int.mul_sub, Int.mul_one]; omega, by omega, by omega⟩
    exact ⟨this.1.symm, this.2.symm⟩
  · have := (Int.ediv_emod_unique (a := n) (b := d) (r := Int.tmod n d) (q := Int.tdiv n d) hd).2 ⟨by omega, by omega, by omega⟩
    exact ⟨this.1.symm, this.2.symm⟩
theorem rnd_euclid (n : Int) (b : Nat) : rnd n b = if n % 2 ^ b ≥ 2 ^ b - n % 2 ^ b ∧ 1 < (2 : Int) ^ b then n / 2 ^ b + 1 else n / 2 ^ b := by
  unfold rnd
  by_cases hb : b = 0
  · subst hb
    rw [if_pos rfl, if_neg (fun h => absurd h.2 (by decide))]
    show n = n / 1
    rw [Int.ediv_one]
  · rw [if_neg hb]
    obtain ⟨c, rfl⟩ : ∃ c, b = c + 1 := ⟨b - 1, by omega⟩
    have hp := pw_pos c
    rw [Nat.add_sub_cancel, pw_succ]
    obtain ⟨p, hpp⟩ : ∃ p : Int, (2 : Int) ^ c = p := ⟨_, rfl⟩
    rw [hpp] at hp ⊢
    have e1 := Int.mul_ediv_add_emod n (2 * p)
    have r1 := Int.emod_nonneg n (show (2 * p : Int) ≠ 0 by omega)
    have r2 := Int.emod_lt_of_pos n (show (0 : Int) < 2 * p by omega)
    obtain ⟨q, hq⟩ : ∃ q, n / (2 * p) = q := ⟨_, rfl⟩
    obtain ⟨r, hr⟩ : ∃ r, n % (2 * p) = r := ⟨_, rfl⟩
    rw [hq, hr] at e1
    rw [hr] at r1 r2
    rw [hq, hr]
    by_cases h : p ≤ r
    · have := (Int.ediv_emod_unique (a := n) (b := p) (r := r - p) (q := 2 * q + 1) hp).2 ⟨by rw [Int.mul_add, Int.mul_one, ← Int.mul_assoc, Int.mul_comm p 2]; omega, by omega, by omega⟩
      rw [this.1, if_pos (by omega)]
      omega
    · have := (Int.ediv_emod_unique (a := n) (b := p) (r := r) (q := 2 * q) hp).2 ⟨by rw [← Int.mul_assoc, Int.mul_comm p 2]; omega, by omega, by omega⟩
      rw [this.1, if_neg (by omega)]
      omega
set_option maxRecDepth 100000 in
theorem rRound_calls (n : Int) (b : Nat) (h : -1152921504606846976 ≤ n ∧ n ≤ 1152921504606846976) (hb : b ≤ 60) (w : World) : Calls Try.prog 92 #[.int .i64 n, .int .i64 b] w fun e w' => e = .returned (.int .i64 (rnd n b)) ∧ w' = w := by
  have RE := Lib.hid (rnd_euclid n b)
  have EU := Lib.hid (euclid n (2 ^ b) (pw_pos b))
  have BN : Hid (2 ^ b ≤ (1152921504606846976 : Int)) := Lib.hid (by
    have h2 : (2 : Int) ^ b ≤ 2 ^ 60 := pw_le hb
    have e60 : (2 : Int) ^ 60 = 1152921504606846976 := by decide
    omega)
  have BT := Lib.hid (tmod_lt n (2 ^ b) (pw_pos b))
  have BQ : Hid (-1152921504606846976 ≤ n / 2 ^ b ∧ n / 2 ^ b ≤ 1152921504606846976) := Lib.hid (by
    have hp := pw_pos b
    constructor
    · rw [Int.le_ediv_iff_mul_le hp]
      have : (-1152921504606846976 : Int) * 2 ^ b ≤ -1152921504606846976 * 1 := Int.mul_le_mul_of_nonpos_left (by decide) (by omega)
      omega
    · have h3 : n / 2 ^ b < 1152921504606846977 := by
        rw [Int.ediv_lt_iff_lt_mul hp]
        have : (1152921504606846977 : Int) * 1 ≤ 1152921504606846977 * 2 ^ b := Int.mul_le_mul_of_nonneg_left (by omega) (by decide)
        omega
      omega)
  have b0 : decide ((b : Int) < 0) = false := decide_eq_false (by omega)
  have b62 : decide ((62 : Int) < (b : Int)) = false := decide_eq_false (by omega)
  go_enter Try.func92, Try.ntmps92
  go_wp2_with fail
  go_loopw [5, 6] (fun u v wr => ∃ k : Nat, k ≤ b ∧ u = .int .i64 (2 ^ k) ∧ v = .int .i64 (k : Int) ∧ wr = w) (fun _ v _ => b - (intOf v).toNat)
  case atStart => exact ⟨0, by omega, rfl, rfl, rfl⟩
  case round =>
    obtain ⟨k, hk, rfl, rfl, rfl⟩ := hrel
    by_cases hlt : k < b
    · have hs := Lib.hid (pw_succ k)
      have hle : Hid ((2 : Int) ^ (k + 1) ≤ 2 ^ b) := Lib.hid (pw_le (by omega))
      have hp := Lib.hid (pw_pos k)
      obtain ⟨g, hg⟩ : ∃ g : Int, (2 : Int) ^ k = g := ⟨_, rfl⟩
      rw [hg] at hs hp ⊢
      have w1 : IntKind.i64.wrap (g * 2) = g * 2 := wrapI64 (by have := hp.out; omega) (by have := hs.out; have := hle.out; have := BN.out; omega)
      have ik : (k : Int) < (b : Int) := by omega
      clear hg
      go_wp2_with fail
      go_roundw
      case rel => exact ⟨k + 1, by omega, by rw [hs.out, Int.mul_comm], by push_cast; rfl, trivial⟩
      case measure =>
        show b - ((k : Int) + 1).toNat < b - (k : Int).toNat
        omega
    · obtain rfl : k = b := by omega
      have PP := Lib.hid (pw_pos k)
      obtain ⟨g, hg⟩ : ∃ g : Int, (2 : Int) ^ k = g := ⟨_, rfl⟩
      rw [hg] at RE EU BN BT BQ PP ⊢
      clear hg
      have g0 : g ≠ 0 := by have := PP.out; omega
      obtain ⟨T, hT⟩ : ∃ T, Int.tdiv n g = T := ⟨_, rfl⟩
      obtain ⟨M, hM⟩ : ∃ M, Int.tmod n g = M := ⟨_, rfl⟩
      obtain ⟨q, hq⟩ : ∃ q, n / g = q := ⟨_, rfl⟩
      obtain ⟨r, hr⟩ : ∃ r, n % g = r := ⟨_, rfl⟩
      rw [hT, hM, hq, hr] at EU
      rw [hq, hr] at RE
      rw [hq] at BQ
      rw [hM] at BT
      clear hq hr
      have eu := EU.out
      have bt := BT.out
      have bq := BQ.out
      have bn := BN.out
      have pp := PP.out
      have zg : (g == 0) = false := by rw [beq_eq_false_iff_ne]; exact g0
      by_cases hm : M < 0
      · have e1 : T - 1 = q ∧ M + g = r := eu.1 hm
        have v1 : IntKind.i64.wrap T = T := wrapI64 (by omega) (by omega)
        have v2 : IntKind.i64.wrap M = M := wrapI64 (by omega) (by omega)
        have v3 : IntKind.i64.wrap (T - 1) = q := (wrapI64 (by omega) (by omega)).trans e1.1
        have v4 : IntKind.i64.wrap (M + g) = r := (wrapI64 (by omega) (by omega)).trans e1.2
        have v5 : IntKind.i64.wrap (g - r) = g - r := wrapI64 (by omega) (by omega)
        have v6 : IntKind.i64.wrap (q + 1) = q + 1 := wrapI64 (by omega) (by omega)
        clear eu bt bq e1
        by_cases h1 : g - r ≤ r
        · by_cases h2 : 1 < g
          · rw [if_pos ⟨h1, h2⟩] at RE
            go_wp2_with fail
            go_ret
            rw [RE.out]
            exact ⟨rfl, rfl⟩
          · rw [if_neg (fun h => h2 h.2)] at RE
            go_wp2_with fail
            go_ret
            rw [RE.out]
            exact ⟨rfl, rfl⟩
        · rw [if_neg (fun h => h1 h.1)] at RE
          go_wp2_with fail
          go_ret
          rw [RE.out]
          exact ⟨rfl, rfl⟩
      · have e1 : T = q ∧ M = r := eu.2 (by omega)
        obtain ⟨rfl, rfl⟩ := e1
        have v1 : IntKind.i64.wrap T = T := wrapI64 (by omega) (by omega)
        have v2 : IntKind.i64.wrap M = M := wrapI64 (by omega) (by omega)
        have v5 : IntKind.i64.wrap (g - M) = g - M := wrapI64 (by omega) (by omega)
        have v6 : IntKind.i64.wrap (T + 1) = T + 1 := wrapI64 (by omega) (by omega)
        clear eu bt bq
        by_cases h1 : g - M ≤ M
        · by_cases h2 : 1 < g
          · rw [if_pos ⟨h1, h2⟩] at RE
            go_wp2_with fail
            go_ret
            rw [RE.out]
            exact ⟨rfl, rfl⟩
          · rw [if_neg (fun h => h2 h.2)] at RE
            go_wp2_with fail
            go_ret
            rw [RE.out]
            exact ⟨rfl, rfl⟩
        · rw [if_neg (fun h => h1 h.1)] at RE
          go_wp2_with fail
          go_ret
          rw [RE.out]
          exact ⟨rfl, rfl⟩
attribute [local irreducible] rnd
set_option maxRecDepth 100000 in
theorem rnear_calls (x : Int) (s v : Nat) (hx : -2147483648 ≤ x ∧ x < 2147483648) (hs : s ≤ 26) (hv : v ≤ 26) (w : World) : Calls Try.prog 87 #[.int .i64 x, .int .i64 s, .int .i64 v] w fun e w' => e = .returned (.int .i64 (nearV x s v)) ∧ w' = w := by
  have hp := pw_pos v
  have hp2 : (2 : Int) ^ v ≤ 2 ^ 26 := pw_le hv
  have e26 : (2 : Int) ^ 26 = 67108864 := by decide
  have HN : Hid (nearV x s v = min (max (rnd x s) (-(2 ^ v - 1))) (2 ^ v - 1)) := Lib.hid rfl
  have RC := Lib.hid (rRound_calls x s (by omega) (by omega) w)
  have RB := rnd_bd x s (by omega) (by omega)
  obtain ⟨g, hg⟩ : ∃ g : Int, (2 : Int) ^ v = g := ⟨_, rfl⟩
  rw [hg] at HN hp hp2
  generalize rnd x s = q at *
  have w1 : IntKind.i64.wrap g = g := wrapI64 (by omega) (by omega)
  have w2 : IntKind.i64.wrap (g - 1) = g - 1 := wrapI64 (by omega) (by omega)
  have w3 : IntKind.i64.wrap (-(g - 1)) = -(g - 1) := wrapI64 (by omega) (by omega)
  by_cases h1 : g - 1 < q
  · have HR : Hid (nearV x s v = g - 1) := Lib.hid (by rw [HN.out]; omega)
    go_enter Try.func87, Try.ntmps87
    go_wp2_with fail
    refine RC.out.mono ?_
    rintro e1 w1 ⟨rfl, he⟩
    subst w1
    go_wp2_with fail
    go_ret
    rw [HR.out]
    exact ⟨rfl, rfl⟩
  · by_cases h2 : q < -(g - 1)
    · have HR : Hid (nearV x s v = -(g - 1)) := Lib.hid (by rw [HN.out]; omega)
      go_enter Try.func87, Try.ntmps87
      go_wp2_with fail
      refine RC.out.mono ?_
      rintro e1 w1 ⟨rfl, he⟩
      subst w1
      go_wp2_with fail
      go_ret
      rw [HR.out]
      exact ⟨rfl, rfl⟩
    · have HR : Hid (nearV x s v = q) := Lib.hid (by rw [HN.out]; omega)
      go_enter Try.func87, Try.ntmps87
      go_wp2_with fail
      refine RC.out.mono ?_
      rintro e1 w1 ⟨rfl, he⟩
      subst w1
      go_wp2_with fail
      go_ret
      rw [HR.out]
      exact ⟨rfl, rfl⟩
theorem redges_h {W w : World} {L : List Ast} (H : Hp W w L) : Calls Try.prog 52 #[] w fun en w' => ∃ g cap, en = .returned (.slice (some ⟨g, 0, none⟩) 22 cap) ∧ Hp W w' (rowA 3 .i64 g cap Bno.EL :: L) := by
  refine (Bno.refEdges_row w).mono ?_
  rintro en w' ⟨g, cap, rfl, hg, r, b⟩
  exact ⟨g, cap, rfl, H.add_row b r hg⟩
end Go.Proofs.Ytlbjoflmfboeeaa.Qnt

/-
  The walk of the document's PutLines; no condition but those told.
-/
set_option linter.unusedVariables false
set_option linter.unusedSimpArgs false
namespace Go.Proofs.Ytlbjoflmfboeeaa.Qnt
open Go.RowKit Go.Proofs.Ytlbjoflmfboeeaa Go.Proofs.YtlbjoflmfboeeaaW.PrintWords Go.Proofs.YtlbjoflmfboeeaaW.PrintLast Go.Proofs.YtlbjoflmfboeeaaW.PrintMore Go.Proofs.Ytlbjoflmfboeeaa.Deco Go.Proofs.Ytlbjoflmfboeeaa.Ceil

theorem rfine0 {R : Enc.RSt} (ok : Enc.RGood R) : RFine (R, ones) := ⟨ok, Mdl.good_new 13 (by decide) (by decide), rfl⟩
theorem rqrun_none {I : Nat → Option Int} {P : Enc.RSt × List Int} {j : Nat} (h : I j = none) : rqrun I P (j + 1) = rqrun I P j := by
  show (match I j with
    | none => rqrun I P j
    | some q => rqput (rqrun I P j) q) = _
  rw [h]
theorem rqrun_some {I : Nat → Option Int} {P : Enc.RSt × List Int} {j : Nat} {q : Int} (h : I j = some q) : rqrun I P (j + 1) = rqput (rqrun I P j) q := by
  show (match I j with
    | none => rqrun I P j
    | some q => rqput (rqrun I P j) q) = _
  rw [h]
theorem rqrun_skip {c s x : List Int} (P : Enc.RSt × List Int) {i : Nat} (hi : i < 21) (h : ¬ s.getD i 0 < c.getD i 0) (k : Nat) (hk : Bno.el i + k ≤ Bno.el (i + 1)) : rqrun (itm c s x) P ((Bno.el i).toNat + k) = rqrun (itm c s x) P (Bno.el i).toNat := by
  have he := el_nat i (by omega)
  induction k with
  | zero => rfl
  | succ k ih =>
    have h1 := cB_band c (j := (Bno.el i).toNat + k) hi (by omega) (by omega)
    have h2 := cB_band s (j := (Bno.el i).toNat + k) hi (by omega) (by omega)
    have e : itm c s x ((Bno.el i).toNat + k) = none := by unfold itm; rw [h1, h2, if_neg h]
    rw [show (Bno.el i).toNat + (k + 1) = (Bno.el i).toNat + k + 1 from by omega]
    rw [rqrun_none e]
    exact ih (by omega)
attribute [local irreducible] rqrun Bno.bandOf nearV Enc.rsymS Enc.rbitsS
set_option maxHeartbeats 4000000 in
set_option maxRecDepth 100000 in
theorem PutLines_h {W w : World} {L : List Ast} {e : Nat} {R : Enc.RSt} (H : Hp W w (rencA e R :: L)) (ok : Enc.RGood R) (small : R.K ≤ 500000000) {ul uc us : Value} {x c st : List Int}
    (rl : Rd W L .i64 ul x) (rc : Rd W L .i64 uc c) (rs : Rd W L .i64 us st) (p : Plan c st) (xl : x.length = 512) (xb : ∀ y ∈ x, -2147483648 ≤ y ∧ y < 2147483648) :
    Calls Try.prog 58 #[.pointer (some ⟨e, 0, none⟩), ul, uc, us] w fun en w' => en = .returned (.tuple #[]) ∧ Hp W w' (rencA e (rqrun (itm c st x) (R, ones) 512).1 :: L) := by
  have RL := Lib.hid rl
  have RC := Lib.hid rc
  have RS := Lib.hid rs
  obtain ⟨A, ca, rfl⟩ := (rl w H.drop).form
  obtain ⟨B, cb, rfl⟩ := (rc w H.drop).form
  obtain ⟨C, cc, rfl⟩ := (rs w H.drop).form
  have P := Lib.hid p
  have XB := Lib.hid xb
  have lc := p.hc.len
  have ls := p.hs.len
  rw [lc] at RC ⊢
  rw [ls] at RS ⊢
  rw [xl] at RL ⊢
  have H0 := Lib.hid H
  have OK := Lib.hid ok
  clear rl rc rs p xb H ok
  go_enter Try.func58, Try.ntmps58
  go_wp2_with fail
  refine (Mdl.RNew_h H0.out 13 (by decide) (by decide)).mono ?_
  rintro e2 w2 ⟨m, rfl, h2⟩
  have H2 := Lib.hid h2
  clear h2
  go_wp2_with fail
  refine (redges_h H2.out).mono ?_
  rintro e3 w3 ⟨ge, ce, rfl, h3⟩
  have H3 : Hid (Hp W w3 (rencA e R :: rmdlA m ones false :: rowA 3 .i64 ge ce Bno.EL :: L)) := Lib.hid h3.up1.up2
  clear h3 H2
  go_wp2_with fail
  have e0 : (Bno.el 0).toNat = 0 := by decide
  have QZ : Hid (rqrun (itm c st x) (R, ones) 0 = (R, ones)) := Lib.hid (by unfold rqrun; rfl)
  go_loopw [11] (fun u wr => ∃ i : Nat, i ≤ 21 ∧ u = .int .i64 (i : Int) ∧ Hid (Hp W wr (rencA e (rqrun (itm c st x) (R, ones) (Bno.el i).toNat).1 :: rmdlA m (rqrun (itm c st x) (R, ones) (Bno.el i).toNat).2 false :: rowA 3 .i64 ge ce Bno.EL :: L))) (fun u _ => 21 - (intOf u).toNat)
  case atStart => exact ⟨0, by omega, rfl, Lib.hid (by rw [e0, QZ.out]; exact H3.out)⟩
  case round =>
    clear H3 H0 e0
    obtain ⟨i, hi, rfl, H⟩ := hrel
    by_cases hlt : i < 21
    · obtain ⟨ad, rfl, _⟩ := (RC.out wr H.out.drop.drop.drop).cell (j := i) (by rw [lc]; exact hlt)
      obtain ⟨ad2, rfl, _⟩ := (RS.out wr H.out.drop.drop.drop).cell (j := i) (by rw [ls]; exact hlt)
      obtain ⟨ad3, rfl, _⟩ := (RL.out wr H.out.drop.drop.drop).cell (j := 0) (by rw [xl]; omega)
      have CD := Lib.hid ((show Rd W L .i64 (.slice (some ad) c.length cb) c by rw [lc]; exact RC.out).cell (j := i) (by rw [lc]; exact hlt))
      have SD := Lib.hid ((show Rd W L .i64 (.slice (some ad2) st.length cc) st by rw [ls]; exact RS.out).cell (j := i) (by rw [ls]; exact hlt))
      have HC : Hid (c.getD i 0 = c[i]'(by rw [lc]; exact hlt)) := Lib.hid (Dig.getD_get c i _)
      have HS : Hid (st.getD i 0 = st[i]'(by rw [ls]; exact hlt)) := Lib.hid (Dig.getD_get st i _)
      have bc := P.out.hc.bd i (by rw [lc]; exact hlt)
      have bs := P.out.hs.bd i (by rw [ls]; exact hlt)
      have bd := P.out.d i hlt
      rw [HC.out, HS.out] at bd
      generalize c[i]'(by rw [lc]; exact hlt) = n at *
      generalize st[i]'(by rw [ls]; exact hlt) = t at *
      have ik : (i : Int) < 21 := by omega
      have EU := el_up i hlt
      have EB := el_nat i (by omega)
      have EB2 := el_nat (i + 1) (by omega)
      have GD := Lib.hid (fun (w : World) (R' : Enc.RSt) (M' : List Int) (h : Hp W w (rencA e R' :: rmdlA m M' false :: rowA 3 .i64 ge ce Bno.EL :: L)) => (show w.cell? ⟨ge, i, none⟩ = some (.int .i64 (Bno.el i)) ∧ w.cell? ⟨ge, i + 1, none⟩ = some (.int .i64 (Bno.el (i + 1))) from by
        have k1 := h.up2.row.cell (i := i) (by rw [Bno.EL_len]; omega)
        have k2 := h.up2.row.cell (i := i + 1) (by rw [Bno.EL_len]; omega)
        rw [Bno.EL_get i] at k1
        rw [Bno.EL_get (i + 1)] at k2
        exact ⟨k1, k2⟩))
      obtain ⟨lo, hlo⟩ : ∃ lo : Nat, Bno.el i = lo := ⟨(Bno.el i).toNat, by omega⟩
      obtain ⟨hi', hhi⟩ : ∃ hi' : Nat, Bno.el (i + 1) = hi' := ⟨(Bno.el (i + 1)).toNat, by omega⟩
      have HLO := Lib.hid hlo
      have HHI := Lib.hid hhi
      rw [hlo, hhi] at GD EU
      rw [hlo] at EB H
      rw [hhi] at EB2
      rw [Int.toNat_natCast] at H
      have k1 := (GD.out wr _ _ H.out).1
      clear hlo hhi
      go_wp2_with fail
      by_cases ht : t < n
      · go_loopw [12] (fun u w2 => ∃ j : Nat, j ≤ hi' - lo ∧ u = .int .i64 ((lo + j : Nat) : Int) ∧ Hid (Hp W w2 (rencA e (rqrun (itm c st x) (R, ones) (lo + j)).1 :: rmdlA m (rqrun (itm c st x) (R, ones) (lo + j)).2 false :: rowA 3 .i64 ge ce Bno.EL :: L))) (fun u _ => hi' - (intOf u).toNat)
        case atStart => exact ⟨0, by omega, rfl, Lib.hid (by rw [Nat.add_zero]; exact H.out)⟩
        case round =>
          clear H k1
          obtain ⟨j, hj, rfl, H⟩ := hrel
          obtain ⟨z, hz⟩ : ∃ z, lo + j = z := ⟨_, rfl⟩
          rw [hz] at H
          have hzb : lo ≤ z ∧ z ≤ hi' := by omega
          rw [hz]
          have hz1 : lo + (j + 1) = z + 1 := by omega
          have HZ := Lib.hid hz1
          have hjb : j + 1 ≤ hi' - lo ∨ z = hi' := by omega
          clear hz hz1
          have k2 := (GD.out wr _ _ H.out).2
          have d1 := CD.out wr H.out.drop.drop.drop
          have d2 := SD.out wr H.out.drop.drop.drop
          by_cases hjl : z < hi'
          · have LD := (show Rd W L .i64 (.slice (some ad3) x.length ca) x by rw [xl]; exact RL.out).cell (j := z) (by rw [xl]; omega) wr H.out.drop.drop.drop
            have bx := XB.out _ (List.getElem_mem (show z < x.length by rw [xl]; omega))
            have HX : Hid (x.getD z 0 = x[z]'(by rw [xl]; omega)) := Lib.hid (Dig.getD_get x z _)
            generalize x[z]'(by rw [xl]; omega) = y at *
            have ij : (z : Int) < (hi' : Int) := by omega
            have i5 : (z : Int) < 512 := by omega
            have NC : Hid (∀ w, Calls Try.prog 87 #[.int .i64 y, .int .i64 t, .int .i64 (n - t)] w fun e w' => e = .returned (.int .i64 (nearV y t.toNat (n - t).toNat)) ∧ ∃ q, w' = w.drewN q) := Lib.hid (fun w => by
              have := rnear_calls y t.toNat (n - t).toNat bx (by omega) (by omega) w
              rw [show ((t.toNat : Nat) : Int) = t from by omega, show (((n - t).toNat : Nat) : Int) = n - t from by omega] at this
              refine this.mono ?_
              rintro e w' ⟨h1, h2⟩
              exact ⟨h1, 0, h2⟩)
            have HB1 := Lib.hid (cB_band c (i := i) (j := z) hlt (by rw [HLO.out]; omega) (by rw [HHI.out]; omega))
            have HB2 := Lib.hid (cB_band st (i := i) (j := z) hlt (by rw [HLO.out]; omega) (by rw [HHI.out]; omega))
            have HI : Hid (itm c st x z = some (nearV y t.toNat (n - t).toNat)) := Lib.hid (by unfold itm; rw [HB1.out, HB2.out, HC.out, HS.out, HX.out, if_pos ht])
            have HQ := Lib.hid (rqrun_some (P := (R, ones)) HI.out)
            have IC := Lib.hid (itm_cls P.out (by omega) HI.out)
            have FQ := Lib.hid (rqrun_fine (x := x) P.out (rfine0 OK.out) z (by omega))
            have NB := nearV_bd y t.toNat (n - t).toNat
            have NB2 : Hid ((2 : Int) ^ (n - t).toNat ≤ 2 ^ 12) := Lib.hid (pw_le (by omega))
            have E12 : Hid ((2 : Int) ^ 12 = 4096) := Lib.hid (by decide)
            have nb : -4096 < nearV y t.toNat (n - t).toNat ∧ nearV y t.toNat (n - t).toNat < 4096 := by have := NB2.out; have := E12.out; omega
            clear NB NB2 E12
            generalize nearV y t.toNat (n - t).toNat = v at *
            have w1 : IntKind.i64.wrap (n - t) = n - t := wrapI64 (by omega) (by omega)
            go_wp2_with fail
            go_quiet (fail)
            have H1 := Lib.hid (H.out.drewN nq)
            have d1 := CD.out _ H1.out.drop.drop.drop
            have d2 := SD.out _ H1.out.drop.drop.drop
            have LD : (wr.drewN nq).cell? (ad3.add z) = some (.int .i64 y) := LD
            clear H k2
            generalize wr.drewN nq = wq at *
            go_wp2_with fail
            go_quiet ((go_at_call 87; exact Calls.quiet_of (NC.out _)))
            have H2 := Lib.hid (H1.out.drewN nq)
            clear H1 d1 d2 LD
            generalize wq.drewN nq = wp at *
            have BC := Lib.hid (fun w => rBits_calls v (by omega) w)
            have SY := Lib.hid (Enc.RSymbol_h H2.out FQ.out.1.r (by have := FQ.out.2; omega) FQ.out.1.g (cls v) (by rw [FQ.out.1.len]; have := IC.out.2; omega))
            have S1 := Lib.hid (Enc.rsymS_good FQ.out.1.r FQ.out.1.g (k := cls v) (by rw [FQ.out.1.len]; have := IC.out.2; omega))
            have IC12 := IC.out.2
            obtain ⟨P2, hP2⟩ : ∃ P2, rqrun (itm c st x) (R, ones) z = P2 := ⟨_, rfl⟩
            rw [hP2] at HQ SY S1 FQ H2
            have HQ2 : Hid (rqput P2 v = (if v = 0 then Enc.rsymS P2.1 P2.2 (cls v) else Enc.rbitsS (Enc.rbitsS (Enc.rsymS P2.1 P2.2 (cls v)) (sgn v) 1) (low v) (cls v - 1), Mdl.next false P2.2 (cls v))) := Lib.hid rfl
            clear hP2
            go_wp2_with fail
            refine (BC.out _).mono ?_
            rintro e4 w4 ⟨rfl, he⟩
            subst w4
            go_wp2_with fail
            refine SY.out.mono ?_
            rintro e5 w5 ⟨rfl, h5⟩
            have H5 := Lib.hid h5
            clear h5 SY H2
            by_cases v0 : v = 0
            · subst v0
              have hk : cls 0 = 0 := rfl
              rw [hk] at H5 HQ2
              rw [if_pos rfl] at HQ2
              go_wp2_with fail
              go_roundw
              case rel => exact ⟨j + 1, by omega, by rw [HZ.out]; push_cast; rfl, Lib.hid (by rw [HZ.out, HQ.out, HQ2.out]; exact H5.out)⟩
              case measure =>
                show hi' - ((z : Int) + 1).toNat < hi' - (z : Int).toNat
                omega
            · have LB := Lib.hid (low_bd v0)
              have CS := Lib.hid (cls_spec v0)
              rw [if_neg v0] at HQ2
              generalize cls v = k at *
              have c1 : 1 ≤ k := CS.out.1
              obtain ⟨j2, hj2⟩ : ∃ j2, k - 1 = j2 := ⟨_, rfl⟩
              rw [hj2] at HQ2 LB
              obtain ⟨a, ha⟩ : ∃ a : Nat, v.natAbs = a := ⟨_, rfl⟩
              rw [ha] at LB
              have kj : (k : Int) - 1 = (j2 : Int) := by omega
              have j11 : j2 ≤ 11 := by omega
              have k0 : ¬ ((k : Int) ≤ 0) := by omega
              have k0' : (0 : Int) < (k : Int) := by omega
              have SR := Lib.hid (Enc.rbitsS_good S1.out.1 (sgn v) 1 (by decide))
              have PC := Lib.hid (fun w => rpower_calls j2 (by omega) w)
              have FK := FQ.out.2
              have SK := S1.out.2.2
              have SK2 := SR.out.2.2
              obtain ⟨g, hg⟩ : ∃ g : Int, (2 : Int) ^ j2 = g := ⟨_, rfl⟩
              rw [hg] at PC
              have LV : Hid ((a : Int) - g = low v) := Lib.hid (by have := LB.out.2.2; rw [hg] at this; omega)
              have LW : Hid (IntKind.i64.wrap (low v) = low v) := Lib.hid (by have h1 := LB.out; have h2 : (2 : Int) ^ j2 ≤ 2 ^ 11 := pw_le j11; have e11 : (2 : Int) ^ 11 = 2048 := by decide
                                                                              exact wrapI64 (by omega) (by omega))
              have q1 : IntKind.i64.wrap ((a : Int) - g) = low v := by rw [LV.out, LW.out]
              clear hg hj2
              by_cases v1 : v < 0
              · have hs : sgn v = 1 := by unfold sgn; rw [if_pos v1]
                rw [hs] at HQ2 SR SK2
                have q2 : IntKind.i64.wrap (-v) = (a : Int) := by rw [wrapI64 (by omega) (by omega)]; omega
                have q3 : IntKind.i64.wrap (a : Int) = (a : Int) := wrapI64 (by omega) (by omega)
                clear ha hs
                go_wp2_with fail
                refine (Enc.RBits_h H5.out S1.out.1 (by omega) 1 1 (by decide) (by decide) (by decide)).mono ?_
                rintro e6 w6 ⟨rfl, h6⟩
                have H6 := Lib.hid h6
                clear h6 H5
                go_wp2_with fail
                refine (PC.out _).mono ?_
                rintro e7 w7 ⟨rfl, he⟩
                subst w7
                go_wp2_with fail
                refine (Enc.RBits_h H6.out SR.out.1 (by omega) _ j2 LB.out.1 LB.out.2.1 (by omega)).mono ?_
                rintro e8 w8 ⟨rfl, h8⟩
                have H8 := Lib.hid h8
                clear h8 H6
                go_wp2_with fail
                go_roundw
                case rel => exact ⟨j + 1, by omega, by rw [HZ.out]; push_cast; rfl, Lib.hid (by rw [HZ.out, HQ.out, HQ2.out]; exact H8.out)⟩
                case measure =>
                  show hi' - ((z : Int) + 1).toNat < hi' - (z : Int).toNat
                  omega
              · have hs : sgn v = 0 := by unfold sgn; rw [if_neg v1]
                rw [hs] at HQ2 SR SK2
                obtain rfl : v = (a : Int) := by omega
                have q3 : IntKind.i64.wrap (a : Int) = (a : Int) := wrapI64 (by omega) (by omega)
                clear ha hs
                go_wp2_with fail
                refine (Enc.RBits_h H5.out S1.out.1 (by omega) 0 1 (by decide) (by decide) (by decide)).mono ?_
                rintro e6 w6 ⟨rfl, h6⟩
                have H6 := Lib.hid h6
                clear h6 H5
                go_wp2_with fail
                refine (PC.out _).mono ?_
                rintro e7 w7 ⟨rfl, he⟩
                subst w7
                go_wp2_with fail
                refine (Enc.RBits_h H6.out SR.out.1 (by omega) _ j2 LB.out.1 LB.out.2.1 (by omega)).mono ?_
                rintro e8 w8 ⟨rfl, h8⟩
                have H8 := Lib.hid h8
                clear h8 H6
                go_wp2_with fail
                go_roundw
                case rel => exact ⟨j + 1, by omega, by rw [HZ.out]; push_cast; rfl, Lib.hid (by rw [HZ.out, HQ.out, HQ2.out]; exact H8.out)⟩
                case measure =>
                  show hi' - ((z : Int) + 1).toNat < hi' - (z : Int).toNat
                  omega
          · obtain rfl : z = hi' := by omega
            have ij : ¬ ((z : Int) < (z : Int)) := by omega
            go_wp2_with fail
            go_quiet (fail)
            go_wp2_with fail
            go_roundw
            case rel => exact ⟨i + 1, by omega, by push_cast; rfl, Lib.hid (by rw [HHI.out, Int.toNat_natCast]; exact H.out.drewN nq)⟩
            case measure =>
              show 21 - ((i : Int) + 1).toNat < 21 - (i : Int).toNat
              omega
      · go_loopw [12] (fun u w2 => u = .int .i64 ((lo : Nat) : Int) ∧ Hid (Hp W w2 (rencA e (rqrun (itm c st x) (R, ones) lo).1 :: rmdlA m (rqrun (itm c st x) (R, ones) lo).2 false :: rowA 3 .i64 ge ce Bno.EL :: L))) (fun u _ => 0)
        case atStart => exact ⟨rfl, H⟩
        case round =>
          clear H k1
          obtain ⟨rfl, H⟩ := hrel
          have k2 := (GD.out wr _ _ H.out).2
          have d1 := CD.out wr H.out.drop.drop.drop
          have d2 := SD.out wr H.out.drop.drop.drop
          have SKP := Lib.hid (rqrun_skip (c := c) (s := st) (x := x) (R, ones) hlt (by rw [HC.out, HS.out]; exact ht) (Bno.el (i + 1) - Bno.el i).toNat (by rw [HLO.out, HHI.out]; omega))
          rw [HLO.out, HHI.out, Int.toNat_natCast, show lo + ((hi' : Int) - (lo : Int)).toNat = hi' from by omega] at SKP
          go_wp2_with fail
          go_quiet (fail)
          go_wp2_with fail
          go_roundw
          case rel => exact ⟨i + 1, by omega, by push_cast; rfl, Lib.hid (by rw [HHI.out, Int.toNat_natCast, SKP.out]; exact H.out.drewN nq)⟩
          case measure =>
            show 21 - ((i : Int) + 1).toNat < 21 - (i : Int).toNat
            omega
    · obtain rfl : i = 21 := by omega
      have e21 : (Bno.el 21).toNat = 512 := by decide
      rw [e21] at H
      go_wp2_with fail
      exact bodyPost_end (results_none rfl _ _ _) rfl ⟨rfl, (H.out.up2.drop).up1.drop⟩
end Go.Proofs.Ytlbjoflmfboeeaa.Qnt

/-
  The walk of the document's GetLines; no condition but those told.
-/
set_option linter.unusedVariables false
set_option linter.unusedSimpArgs false
namespace Go.Proofs.Ytlbjoflmfboeeaa.Qnt
open Go.RowKit Go.Proofs.Ytlbjoflmfboeeaa Go.Proofs.YtlbjoflmfboeeaaW.PrintWords Go.Proofs.YtlbjoflmfboeeaaW.PrintLast Go.Proofs.YtlbjoflmfboeeaaW.PrintMore Go.Proofs.Ytlbjoflmfboeeaa.Deco Go.Proofs.Ytlbjoflmfboeeaa.Ceil

theorem info_i64' : (Try.prog.info? 2).map (fun i => (i.zero, i.size, i.bytes)) = some (some (.int .i64 0), 1, 8) := by kernel_rfl
/-- What the document's GetLines answers. -/
def RLPost (W : World) (L : List Ast) (d : Nat) (r : Option (List Int × (DSt × List Int))) (en : Ending) (w' : World) : Prop :=
  (∃ vs P v, r = some (vs, P) ∧ en = .returned (.tuple #[v, .bool true]) ∧ Hp W w' (slA 2 .i64 v vs :: ddecA d P.1 :: L)) ∨ (r = none ∧ en = .returned (.tuple #[.slice none 0 0, .bool false]) ∧ Below W.heap.size W w')
attribute [local irreducible] gOne gRun nz Bno.bandOf
set_option maxHeartbeats 4000000 in
set_option maxRecDepth 100000 in
theorem GetLines_h {W w : World} {L : List Ast} {d : Nat} {s : DSt} (H : Hp W w (ddecA d s :: L)) (ok : s.Ready) (small : s.n ≤ 500000000) {uc us : Value} {c st : List Int} (seed : Int)
    (rc : Rd W L .i64 uc c) (rs : Rd W L .i64 us st) (p : Plan c st) :
    Calls Try.prog 55 #[.pointer (some ⟨d, 0, none⟩), uc, us, .int .u32 seed] w (RLPost W L d (gRun c st seed (s, ones) 512)) := by
  have RC := Lib.hid rc
  have RS := Lib.hid rs
  obtain ⟨B, cb, rfl⟩ := (rc w H.drop).form
  obtain ⟨C, cc, rfl⟩ := (rs w H.drop).form
  have P := Lib.hid p
  have lc := p.hc.len
  have ls := p.hs.len
  rw [lc] at RC ⊢
  rw [ls] at RS ⊢
  have H0 := Lib.hid H
  have OK := Lib.hid ok
  clear rc rs p H ok
  go_enter Try.func55, Try.ntmps55
  go_wp2_with fail
  refine (Mdl.RNew_h H0.out 13 (by decide) (by decide)).mono ?_
  rintro e2 w2 ⟨m, rfl, h2⟩
  have H2 := Lib.hid h2
  clear h2
  go_wp2_with fail
  refine (redges_h H2.out).mono ?_
  rintro e3 w3 ⟨ge, ce, rfl, h3⟩
  have H3 : Hid (Hp W w3 (ddecA d s :: rmdlA m ones false :: rowA 3 .i64 ge ce Bno.EL :: L)) := Lib.hid h3.up1.up2
  clear h3 H2
  go_wp2_with fail
  have e0 : (Bno.el 0).toNat = 0 := by decide
  have H4 : Hid (Hp W w3 (ddecA d s :: rmdlA m ones false :: rowA 3 .i64 ge ce Bno.EL :: slA 2 .i64 (.slice none 0 0) [] :: L)) := Lib.hid ((H3.out.add_sl (Below.refl _ _) (Sl.nil w3 2 .i64) (fun g hg => by cases hg)).down3)
  go_loopw [13, 14] (fun o u wr => ∃ (i : Nat) (vs : List Int) (Q : DSt × List Int), i ≤ 21 ∧ u = .int .i64 (i : Int) ∧ Hid (gRun c st seed (s, ones) (Bno.el i).toNat = some (vs, Q)) ∧ Hid (Hp W wr (ddecA d Q.1 :: rmdlA m Q.2 false :: rowA 3 .i64 ge ce Bno.EL :: slA 2 .i64 o vs :: L))) (fun _ u _ => 21 - (intOf u).toNat)
  case atStart => exact ⟨0, [], (s, ones), by omega, rfl, Lib.hid (by rw [e0]; unfold gRun; rfl), H4⟩
  case round =>
    clear H3 H0 e0 H4
    obtain ⟨i, vs0, Q0, hi, rfl, HG, H⟩ := hrel
    by_cases hlt : i < 21
    · obtain ⟨ad, rfl, _⟩ := (RC.out wr H.out.drop.drop.drop.drop).cell (j := i) (by rw [lc]; exact hlt)
      obtain ⟨ad2, rfl, _⟩ := (RS.out wr H.out.drop.drop.drop.drop).cell (j := i) (by rw [ls]; exact hlt)
      have CD := Lib.hid ((show Rd W L .i64 (.slice (some ad) c.length cb) c by rw [lc]; exact RC.out).cell (j := i) (by rw [lc]; exact hlt))
      have SD := Lib.hid ((show Rd W L .i64 (.slice (some ad2) st.length cc) st by rw [ls]; exact RS.out).cell (j := i) (by rw [ls]; exact hlt))
      have HC : Hid (c.getD i 0 = c[i]'(by rw [lc]; exact hlt)) := Lib.hid (Dig.getD_get c i _)
      have HS : Hid (st.getD i 0 = st[i]'(by rw [ls]; exact hlt)) := Lib.hid (Dig.getD_get st i _)
      have bc := P.out.hc.bd i (by rw [lc]; exact hlt)
      have bs := P.out.hs.bd i (by rw [ls]; exact hlt)
      have bd := P.out.d i hlt
      rw [HC.out, HS.out] at bd
      generalize c[i]'(by rw [lc]; exact hlt) = n at *
      generalize st[i]'(by rw [ls]; exact hlt) = t at *
      have ik : (i : Int) < 21 := by omega
      have EU := el_up i hlt
      have EB := el_nat i (by omega)
      have EB2 := el_nat (i + 1) (by omega)
      have GD := Lib.hid (fun (w : World) (X : Ast) (h : Hp W w (rowA 3 .i64 ge ce Bno.EL :: X :: L)) => (show w.cell? ⟨ge, i, none⟩ = some (.int .i64 (Bno.el i)) ∧ w.cell? ⟨ge, i + 1, none⟩ = some (.int .i64 (Bno.el (i + 1))) from by
        have k1 := h.row.cell (i := i) (by rw [Bno.EL_len]; omega)
        have k2 := h.row.cell (i := i + 1) (by rw [Bno.EL_len]; omega)
        rw [Bno.EL_get i] at k1
        rw [Bno.EL_get (i + 1)] at k2
        exact ⟨k1, k2⟩))
      obtain ⟨lo, hlo⟩ : ∃ lo : Nat, Bno.el i = lo := ⟨(Bno.el i).toNat, by omega⟩
      obtain ⟨hi', hhi⟩ : ∃ hi' : Nat, Bno.el (i + 1) = hi' := ⟨(Bno.el (i + 1)).toNat, by omega⟩
      have HLO := Lib.hid hlo
      have HHI := Lib.hid hhi
      rw [hlo, hhi] at GD EU
      rw [hlo] at EB HG
      rw [hhi] at EB2
      rw [Int.toNat_natCast] at HG
      have k1 := (GD.out wr _ H.out.drop.drop).1
      clear hlo hhi
      go_wp2_with fail
      go_loopw [13, 15] (fun o u w2 => ∃ (z : Nat) (vs : List Int) (Q : DSt × List Int), lo ≤ z ∧ z ≤ hi' ∧ u = .int .i64 (z : Int) ∧ Hid (gRun c st seed (s, ones) z = some (vs, Q)) ∧ Hid (Hp W w2 (ddecA d Q.1 :: rmdlA m Q.2 false :: rowA 3 .i64 ge ce Bno.EL :: slA 2 .i64 o vs :: L))) (fun _ u _ => hi' - (intOf u).toNat)
      case atStart => exact ⟨lo, vs0, Q0, by omega, by omega, rfl, HG, H⟩
      case round =>
        clear H k1 HG
        obtain ⟨z, vs, Q, hz1, hz2, rfl, HG, H⟩ := hrel
        have k2 := (GD.out wr _ H.out.drop.drop).2
        have d1 := CD.out wr H.out.drop.drop.drop.drop
        have d2 := SD.out wr H.out.drop.drop.drop.drop
        by_cases hjl : z < hi'
        · have ij : (z : Int) < (hi' : Int) := by omega
          have HB1 := Lib.hid (cB_band c (i := i) (j := z) hlt (by rw [HLO.out]; omega) (by rw [HHI.out]; omega))
          have HB2 := Lib.hid (cB_band st (i := i) (j := z) hlt (by rw [HLO.out]; omega) (by rw [HHI.out]; omega))
          rw [HC.out] at HB1
          rw [HS.out] at HB2
          have GF := Lib.hid (gRun_fine P.out (dfine0 OK.out) z (by omega) HG.out)
          have hl := GF.out.2.2.2.1
          by_cases ht : t < n
          · have TY := Lib.hid (gRun_told HG.out (by rw [HB1.out, HB2.out]; exact ht))
            rw [HB1.out, HB2.out] at TY
            obtain ⟨v, hv⟩ : ∃ v : Nat, (n - t).toNat = v := ⟨_, rfl⟩
            obtain ⟨tn, rfl⟩ : ∃ tn : Nat, t = (tn : Int) := ⟨t.toNat, by omega⟩
            have hv2 : n - (tn : Int) = (v : Int) := by omega
            rw [hv, Int.toNat_natCast] at TY
            have w1 : IntKind.i64.wrap (v : Int) = (v : Int) := wrapI64 (by omega) (by omega)
            have hvc : v + tn ≤ n.toNat := by omega
            have hnc : n.toNat ≤ 26 := by omega
            have hv12 : v ≤ 12 := by omega
            clear hv
            have GQ := GF.out.1
            have GN2 := GF.out.2.1
            have HGO : Hid (gOne Q v = (if v < symK Q.1 Q.2 then none
              else if symK Q.1 Q.2 = 0 then some (0, (symS Q.1 Q.2, Mdl.next false Q.2 (symK Q.1 Q.2)))
              else some ((if (bitsD (symS Q.1 Q.2) 0 1).1 = 1 then -((bitsD (bitsD (symS Q.1 Q.2) 0 1).2 0 (symK Q.1 Q.2 - 1)).1 + 2 ^ (symK Q.1 Q.2 - 1)) else (bitsD (bitsD (symS Q.1 Q.2) 0 1).2 0 (symK Q.1 Q.2 - 1)).1 + 2 ^ (symK Q.1 Q.2 - 1)),
                ((bitsD (bitsD (symS Q.1 Q.2) 0 1).2 0 (symK Q.1 Q.2 - 1)).2, Mdl.next false Q.2 (symK Q.1 Q.2))))) := Lib.hid (by unfold gOne; rfl)
            have K12 := sym13 GQ
            have S1 := Lib.hid (sym_ready GQ.r GQ.g)
            go_wp2_with fail
            go_quiet (fail)
            have H1 := Lib.hid (H.out.drewN nq)
            clear H k2 d2 d1
            generalize wr.drewN nq = wq at *
            have SB := Lib.hid (Deco.RSymbol_h H1.out GQ.r (by omega) GQ.g)
            obtain ⟨k, hk⟩ : ∃ k, symK Q.1 Q.2 = k := ⟨_, rfl⟩
            rw [hk] at HGO K12 SB
            clear hk
            go_wp2_with fail
            refine SB.out.mono ?_
            rintro e5 w5 ⟨rfl, h5⟩
            have H5 := Lib.hid h5
            have d1 := CD.out _ h5.drop.drop.drop.drop
            have d2 := SD.out _ h5.drop.drop.drop.drop
            clear h5 SB H1
            by_cases hvk : v < k
            · rw [if_pos hvk] at HGO
              rw [HGO.out] at TY
              have GE : Hid (gRun c st seed (s, ones) 512 = none) := Lib.hid (by
                have := gRun_none (k := 512 - (z + 1)) (h := TY.out)
                rwa [show z + 1 + (512 - (z + 1)) = 512 from by omega] at this)
              have i1 : (v : Int) < (k : Int) := by omega
              go_wp2_with fail
              go_quiet (fail)
              go_wp2_with fail
              go_ret2
              exact .inr ⟨GE.out, rfl, (H5.out.drewN _).b⟩
            · rw [if_neg hvk] at HGO
              have i1 : ¬ (v : Int) < (k : Int) := by omega
              by_cases hk0 : k = 0
              · subst hk0
                rw [if_pos rfl] at HGO
                rw [HGO.out] at TY
                have TY2 : Hid (gRun c st seed (s, ones) (z + 1) = some (vs ++ [0], (symS Q.1 Q.2, Mdl.next false Q.2 0))) := Lib.hid (by rw [TY.out, Option.map_some, Int.zero_mul])
                obtain ⟨QQ, hQQ⟩ : ∃ QQ, (symS Q.1 Q.2, Mdl.next false Q.2 0) = QQ := ⟨_, rfl⟩
                have HX0 : Hid (Hp W w5 (ddecA d QQ.1 :: rmdlA m QQ.2 false :: rowA 3 .i64 ge ce Bno.EL :: slA 2 .i64 u13 vs :: L)) := Lib.hid (by rw [← hQQ]; exact H5.out)
                rw [hQQ] at TY2
                clear hQQ TY HGO
                go_wp2_with fail
                go_quiet (fail)
                have HX := Lib.hid (HX0.out.drewN nq)
                have d2 := SD.out _ HX.out.drop.drop.drop.drop
                clear HX0 H5 d1
                generalize w5.drewN nq = WX at *
                have zs : IntKind.i64.wrap (0 * 2 ^ tn) = 0 := by rw [Int.zero_mul]; rfl
                go_wp2_with (at_builtin
                             have H2 := HX.out.alloc (.cells #[.int .i64 0] 2)
                             refine wpList_push (.tmp 90) (.tmp 97) 89 2 .i64 0 8 rfl rfl Try.underlying89 info_i64' _ vs z 0 ⟨WX.heap.size, 0, none⟩ (WX.heap.size + 1) rfl rfl H2.up3.sl hl ((Blk.new WX _ _).cell rfl) (by simp) (by omega) (by omega) ?_
                             intro g4 cap4 w4 hp
                             have H4 := Lib.hid ((H2.up3.push hp (by simp)).row_sl (n := z + 1) (by rw [List.length_append, hl]; rfl))
                             clear H2 hp)
                go_roundw
                case rel => exact ⟨z + 1, vs ++ [0], QQ, by omega, by omega, by push_cast; rfl, TY2, Lib.hid H4.out.down3⟩
                case measure =>
                  show hi' - ((z : Int) + 1).toNat < hi' - (z : Int).toNat
                  omega
              · rw [if_neg hk0] at HGO
                obtain ⟨j, hj⟩ : ∃ j, k = j + 1 := ⟨k - 1, by omega⟩
                rw [show k - 1 = j from by omega] at HGO
                have i2 : (0 : Int) < (k : Int) := by omega
                have j0 : (k : Int) - 1 = (j : Int) := by omega
                have hj11 : j ≤ 11 := by omega
                have HJ := Lib.hid hj
                clear hj
                have S2 := Lib.hid (bits_ready S1.out.1 0 1 (by decide))
                have B2 := Lib.hid (bits12 S1.out.1 1 (by decide))
                obtain ⟨T, hT⟩ : ∃ T, bitsD (symS Q.1 Q.2) 0 1 = T := ⟨_, rfl⟩
                have HT := Lib.hid hT
                rw [hT] at S2 B2 HGO
                clear hT
                obtain ⟨sg, T⟩ := T
                simp only at S2 B2 HGO
                have B3 := Lib.hid (bits12 S2.out.1 j (by omega))
                obtain ⟨U, hU⟩ : ∃ U, bitsD T 0 j = U := ⟨_, rfl⟩
                have HU := Lib.hid hU
                rw [hU] at B3 HGO
                clear hU
                obtain ⟨y, U⟩ := U
                simp only at B3 HGO
                have hp := Lib.hid (pw_pos j)
                have hle := Lib.hid (pw_le (show j ≤ 11 by omega))
                have e11 : Hid ((2 : Int) ^ 11 = 2048) := Lib.hid (by decide)
                have PC := Lib.hid (fun w => rpower_calls j (by omega) w)
                obtain ⟨g, hg⟩ : ∃ g : Int, (2 : Int) ^ j = g := ⟨_, rfl⟩
                rw [hg] at PC HGO hp hle B3
                clear hg
                obtain ⟨zz, hz⟩ : ∃ zz, y + g = zz := ⟨_, rfl⟩
                have zb : 0 ≤ zz ∧ zz ≤ 4096 := by have := B3.out; have := hp.out; have := hle.out; have := e11.out; omega
                rw [hz] at HGO
                have q0 : IntKind.i64.wrap (y + g) = zz := by rw [hz]; exact wrapI64 (by omega) (by omega)
                have q3 : IntKind.i64.wrap zz = zz := wrapI64 (by omega) (by omega)
                have q4 : IntKind.i64.wrap (-zz) = -zz := wrapI64 (by omega) (by omega)
                have n5 := S1.out.2.2.2
                have n6 := S2.out.2.2.2
                clear hz hp hle e11 B3
                go_wp2_with fail
                go_quiet (fail)
                have H6 := Lib.hid (H5.out.drewN nq)
                clear H5 d1 d2
                generalize w5.drewN nq = w6 at *
                have B5 := Deco.RBits_h H6.out S1.out.1 (by omega) 1 (by decide)
                rw [HT.out] at B5
                have BB := Lib.hid B5
                clear B5 H6
                go_wp2_with fail
                refine BB.out.mono ?_
                rintro e7 w7 ⟨rfl, h7⟩
                have B5 := Deco.RBits_h h7 S2.out.1 (by omega) j (by omega)
                rw [HU.out] at B5
                have BC := Lib.hid B5
                clear B5 h7 BB
                by_cases hs : sg = 1
                · subst hs
                  rw [if_pos rfl] at HGO
                  have GF2 := Lib.hid (gOne_fine GQ HGO.out)
                  have SBD := Lib.hid (shift_bd (s := tn) (c := n.toNat) GF2.out.2.2.2.1 GF2.out.2.2.2.2 hvc hnc)
                  rw [HGO.out, Option.map_some] at TY
                  obtain ⟨QQ, hQQ⟩ : ∃ QQ, (U, Mdl.next false Q.2 k) = QQ := ⟨_, rfl⟩
                  obtain ⟨y2, hy2⟩ : ∃ y2, -zz * 2 ^ tn = y2 := ⟨_, rfl⟩
                  have TY2 : Hid (gRun c st seed (s, ones) (z + 1) = some (vs ++ [y2], QQ)) := Lib.hid (by rw [TY.out, ← hy2, hQQ])
                  rw [hy2] at SBD
                  have zs : IntKind.i64.wrap (-zz * 2 ^ tn) = y2 := by rw [hy2]; exact wrapI64 (by have := SBD.out; omega) (by have := SBD.out; omega)
                  have HQQ := Lib.hid hQQ
                  clear hQQ hy2 TY HGO GF2
                  go_wp2_with fail
                  refine BC.out.mono ?_
                  rintro e8 w8 ⟨rfl, h8⟩
                  have HX : Hid (Hp W w8 (ddecA d QQ.1 :: rmdlA m QQ.2 false :: rowA 3 .i64 ge ce Bno.EL :: slA 2 .i64 u13 vs :: L)) := Lib.hid (by rw [← HQQ.out]; exact h8)
                  have d2 := SD.out _ h8.drop.drop.drop.drop
                  clear h8 BC
                  go_wp2_with fail
                  refine (PC.out _).mono ?_
                  rintro e9 w9 ⟨rfl, he⟩
                  subst w9
                  go_wp2_with (at_builtin
                               have H2 := HX.out.alloc (.cells #[.int .i64 y2] 2)
                               refine wpList_push (.tmp 90) (.tmp 97) 89 2 .i64 0 8 rfl rfl Try.underlying89 info_i64' _ vs z y2 ⟨w8.heap.size, 0, none⟩ (w8.heap.size + 1) rfl rfl H2.up3.sl hl ((Blk.new w8 _ _).cell rfl) (by simp) (by omega) (by omega) ?_
                               intro g4 cap4 w4 hp
                               have H4 := Lib.hid ((H2.up3.push hp (by simp)).row_sl (n := z + 1) (by rw [List.length_append, hl]; rfl))
                               clear H2 hp)
                  go_roundw
                  case rel => exact ⟨z + 1, vs ++ [y2], QQ, by omega, by omega, by push_cast; rfl, TY2, Lib.hid H4.out.down3⟩
                  case measure =>
                    show hi' - ((z : Int) + 1).toNat < hi' - (z : Int).toNat
                    omega
                · rw [if_neg hs] at HGO
                  have GF2 := Lib.hid (gOne_fine GQ HGO.out)
                  have SBD := Lib.hid (shift_bd (s := tn) (c := n.toNat) GF2.out.2.2.2.1 GF2.out.2.2.2.2 hvc hnc)
                  rw [HGO.out, Option.map_some] at TY
                  obtain ⟨QQ, hQQ⟩ : ∃ QQ, (U, Mdl.next false Q.2 k) = QQ := ⟨_, rfl⟩
                  obtain ⟨y2, hy2⟩ : ∃ y2, zz * 2 ^ tn = y2 := ⟨_, rfl⟩
                  have TY2 : Hid (gRun c st seed (s, ones) (z + 1) = some (vs ++ [y2], QQ)) := Lib.hid (by rw [TY.out, ← hy2, hQQ])
                  rw [hy2] at SBD
                  have zs : IntKind.i64.wrap (zz * 2 ^ tn) = y2 := by rw [hy2]; exact wrapI64 (by have := SBD.out; omega) (by have := SBD.out; omega)
                  have HQQ := Lib.hid hQQ
                  clear hQQ hy2 TY HGO GF2
                  go_wp2_with fail
                  refine BC.out.mono ?_
                  rintro e8 w8 ⟨rfl, h8⟩
                  have HX : Hid (Hp W w8 (ddecA d QQ.1 :: rmdlA m QQ.2 false :: rowA 3 .i64 ge ce Bno.EL :: slA 2 .i64 u13 vs :: L)) := Lib.hid (by rw [← HQQ.out]; exact h8)
                  have d2 := SD.out _ h8.drop.drop.drop.drop
                  clear h8 BC
                  go_wp2_with fail
                  refine (PC.out _).mono ?_
                  rintro e9 w9 ⟨rfl, he⟩
                  subst w9
                  go_wp2_with (at_builtin
                               have H2 := HX.out.alloc (.cells #[.int .i64 y2] 2)
                               refine wpList_push (.tmp 90) (.tmp 97) 89 2 .i64 0 8 rfl rfl Try.underlying89 info_i64' _ vs z y2 ⟨w8.heap.size, 0, none⟩ (w8.heap.size + 1) rfl rfl H2.up3.sl hl ((Blk.new w8 _ _).cell rfl) (by simp) (by omega) (by omega) ?_
                               intro g4 cap4 w4 hp
                               have H4 := Lib.hid ((H2.up3.push hp (by simp)).row_sl (n := z + 1) (by rw [List.length_append, hl]; rfl))
                               clear H2 hp)
                  go_roundw
                  case rel => exact ⟨z + 1, vs ++ [y2], QQ, by omega, by omega, by push_cast; rfl, TY2, Lib.hid H4.out.down3⟩
                  case measure =>
                    show hi' - ((z : Int) + 1).toNat < hi' - (z : Int).toNat
                    omega
          · have GN := Lib.hid (gRun_not HG.out (by rw [HB1.out, HB2.out]; exact ht))
            rw [HB1.out] at GN
            have NC := Lib.hid (fun w => rNoise_calls seed z n (by omega) w)
            generalize nz seed z n = y at *
            go_wp2_with fail
            go_quiet (fail)
            have H1 := Lib.hid (H.out.drewN nq)
            have d1 := CD.out _ H1.out.drop.drop.drop.drop
            clear H k2 d2
            generalize wr.drewN nq = wq at *
            go_wp2_with (first
              | (go_at_call 59
                 refine (NC.out _).mono ?_
                 rintro e5 w5 ⟨rfl, he⟩
                 subst w5)
              | (at_builtin
                 have H2 := H1.out.alloc (.cells #[.int .i64 y] 2)
                 refine wpList_push (.tmp 50) (.tmp 58) 89 2 .i64 0 8 rfl rfl Try.underlying89 info_i64' _ vs z y ⟨wq.heap.size, 0, none⟩ (wq.heap.size + 1) rfl rfl H2.up3.sl hl ((Blk.new wq _ _).cell rfl) (by simp) (by omega) (by omega) ?_
                 intro g4 cap4 w4 hp
                 have H4 := Lib.hid ((H2.up3.push hp (by simp)).row_sl (n := z + 1) (by rw [List.length_append, hl]; rfl))
                 clear H2 hp))
            go_roundw
            case rel => exact ⟨z + 1, vs ++ [y], Q, by omega, by omega, by push_cast; rfl, GN, Lib.hid H4.out.down3⟩
            case measure =>
              show hi' - ((z : Int) + 1).toNat < hi' - (z : Int).toNat
              omega
        · obtain rfl : z = hi' := by omega
          have ij : ¬ ((z : Int) < (z : Int)) := by omega
          go_wp2_with fail
          go_roundw
          case rel => exact ⟨i + 1, vs, Q, by omega, by push_cast; rfl, Lib.hid (by rw [HHI.out, Int.toNat_natCast]; exact HG.out), H⟩
          case measure =>
            show 21 - ((i : Int) + 1).toNat < 21 - (i : Int).toNat
            omega
    · obtain rfl : i = 21 := by omega
      have e21 : (Bno.el 21).toNat = 512 := by decide
      rw [e21] at HG
      go_wp2_with fail
      go_ret2
      exact .inl ⟨_, _, _, HG.out, rfl, H.out.up1.drop.up1.drop.up1⟩
end Go.Proofs.Ytlbjoflmfboeeaa.Qnt
