/-
  CheckSums' own walk; no condition but what the row of rows is.
-/
import Derived.Test.YtoooienmcogbhaaChr
set_option linter.unusedVariables false
set_option linter.unusedSimpArgs false
namespace Go.Proofs.Ytoooienmcogbhaa.Chk
open Go.RowKit Go.Proofs.Ytoooienmcogbhaa Go.Proofs.YtoooienmcogbhaaW.PrintWords Go.Proofs.YtoooienmcogbhaaW.PrintLast Go.Proofs.YtoooienmcogbhaaW.PrintMore

theorem crc_append (a b : List Nat) : ~~~ (F (~~~ (crc a)) b) = crc (a ++ b) := by
  unfold crc
  rw [F_append, BitVec.not_not]
theorem ints_append (a b : List Nat) : ints (a ++ b) = ints a ++ ints b := by simp [ints]
/-- The bytes of the first j rows. -/
def pre (L : List (List Nat)) (j : Nat) : List Nat := (L.take j).flatten
theorem pre_succ (L : List (List Nat)) (j : Nat) (h : j < L.length) : pre L (j + 1) = pre L j ++ L[j] := by
  unfold pre
  rw [List.take_succ_eq_append_getElem h, List.flatten_append]
  simp
theorem pre_lt (L : List (List Nat)) (hL : ∀ b ∈ L, ∀ x ∈ b, x < 256) (j : Nat) : ∀ x ∈ pre L j, x < 256 := by
  intro x hx
  unfold pre at hx
  obtain ⟨b, hb, hxb⟩ := List.mem_flatten.1 hx
  exact hL b (List.mem_of_mem_take hb) x hxb
theorem pre_len (L : List (List Nat)) (j : Nat) (hj : j ≤ L.length) (h : ∀ r (h : r < L.length), r < j → L[r].length ≤ 300) : (pre L j).length ≤ 300 * j := by
  induction j with
  | zero => simp [pre]
  | succ j ih =>
    rw [pre_succ L j (by omega), List.length_append]
    have := ih (by omega) (fun r hr h0 => h r hr (by omega))
    have := h j (by omega) (by omega)
    omega
/-- A row of rows of bytes that came in. -/
def InRows (w : World) (A : Option Addr) (L : List (List Nat)) : Prop :=
  ∀ r (h : r < L.length), ∃ ad Ar cr, A = some ad ∧ w.cell? (ad.add r) = some (.slice Ar L[r].length cr) ∧ L[r].length ≤ cr ∧ (Kd.int .u8).C w Ar (ints L[r]).length (ints L[r])
theorem info_u8 : (Try.prog.info? 5).map (fun i => (i.zero, i.size, i.bytes)) = some (some (.int .u8 0), 1, 1) := by kernel_rfl
theorem lives_on {B : Nat} {w0 w : World} (h : Below B w0 w) (hB : B ≤ w.heap.size) : Calls Try.prog 15 #[] w fun e w' => e = .returned (.bool true) ∧ Below B w0 w' :=
  (lives_calls w).mono fun e w' ⟨he, hb⟩ => ⟨he, h.trans (hb.mono hB)⟩
theorem cs_big (n : Nat) (h : 30 < n) (A : Option Addr) (cap : Nat) (w : World) :
    Calls Try.prog 4 #[.slice A n cap] w fun e w' => e = .returned (.bool true) ∧ Below w.heap.size w w' := by
  have hb1 := Below.refl w.heap.size w
  go_enter Try.func4, Try.ntmps4
  go_wp2_with (go_at_call 15; refine (lives_on (by assumption) (hb1.size)).mono ?_; clear hb1; rintro e w1 ⟨rfl, hb1⟩)
  all_goals (go_ret; exact ⟨rfl, hb1⟩)
set_option maxHeartbeats 4000000 in
set_option maxRecDepth 100000 in
theorem cs_small (L : List (List Nat)) (hL : ∀ b ∈ L, ∀ x ∈ b, x < 256) (n : Nat) (hn : L.length = n) (h30 : n ≤ 30) (A : Option Addr) (cap : Nat) (w : World) (hin : InRows w A L) :
    Calls Try.prog 4 #[.slice A n cap] w fun e w' => e = .returned (.bool true) ∧ Below w.heap.size w w' := by
  have HIN := Lib.hid hin
  have HL := Lib.hid hL
  clear hin hL
  go_enter Try.func4, Try.ntmps4
  go_wp2_with (go_at_call 15; refine (lives_calls _).mono ?_; rintro e w1 ⟨rfl, hb1⟩)
  have hsz := hb1.size
  have HS : Hid (Sum (w1.alloc (.cells #[.int .u32 0, .int .i64 0] 30)) w1.heap.size (crc (pre L 0)) ((pre L 0).length : Int)) := by
    have e0 : crc (pre L 0) = 0#32 := by show crc [] = 0#32; decide +kernel
    rw [e0]; exact Blk.new w1 _ _
  have HB : Hid (Below w.heap.size w (w1.alloc (.cells #[.int .u32 0, .int .i64 0] 30))) := hb1.alloc hsz _
  have HA : Hid (Kd.R (Kd.int .u8) 5 (w1.alloc (.cells #[.int .u32 0, .int .i64 0] 30)) w.heap.size (fun k => k ≠ w1.heap.size) (.slice none 0 0) (ints (pre L 0))) := Kd.R_nil _ _ _ _ _
  generalize w1.heap.size = G at *
  go_loopw [19, 3] (fun i v wr => ∃ j : Nat, j ≤ n ∧ i = .int .i64 j ∧ (∀ r (h : r < L.length), r < j → L[r].length ≤ 300) ∧ Hid (Kd.R (Kd.int .u8) 5 wr w.heap.size (fun k => k ≠ G) v (ints (pre L j))) ∧ Hid (Sum wr G (crc (pre L j)) ((pre L j).length : Int)) ∧ Hid (Below w.heap.size w wr)) (fun i _ _ => n - (intOf i).toNat)
  case atStart => exact ⟨0, by omega, rfl, fun r h h0 => by omega, HA, HS, HB⟩
  case round =>
    clear HA HS HB
    obtain ⟨j, hj, rfl, hall, HA, HS, HB⟩ := hrel
    by_cases hjl : j < n
    · have hjL : j < L.length := by omega
      obtain ⟨ad, Ar, cr, rfl, d, hcr, hC⟩ := HIN.out j hjL
      have hadl : (ad.add j).block < w.heap.size := World.block_lt_of_cell? w _ d
      rw [← HB.out.cell hadl] at d
      clear hadl
      have HC := Lib.hid hC
      have HP := Lib.hid (pre_succ L j hjL)
      have HLb := Lib.hid (HL.out _ (List.getElem_mem hjL))
      have HAll := Lib.hid hall
      clear hC hall
      obtain ⟨b, HBq⟩ : ∃ b, Hid (L[j] = b) := ⟨L[j], Lib.hid rfl⟩
      rw [HBq.out] at HC HP HLb d hcr
      obtain ⟨len, hlen⟩ : ∃ len, b.length = len := ⟨_, rfl⟩
      rw [hlen] at d hcr
      by_cases h300 : 300 < len
      · go_wp2
        go_ret
        exact ⟨rfl, HB.out⟩
      · have hG := HS.out.lt
        have hwr := HB.out.size
        obtain ⟨a, HAq⟩ : ∃ a, Hid (pre L j = a) := ⟨pre L j, Lib.hid rfl⟩
        have hal := pre_len L j (by omega) HAll.out
        rw [HAq.out] at HA HS HP hal
        have hbl : (ints b).length = len := by rw [ints_len, hlen]
        have hGw : w.heap.size ≤ G := by assumption
        go_wp2_with (first
          | ((with_reducible refine gate_dst (N := 26) rfl ?_); refine Kd.R_lit (Kd.int .u8) wr.heap.size 5 ?hg (N := 26) ?hd (xs := ([] : List Int)) (inner := []) (ok := fun k => k ≠ G) (okp := fun _ => False) ?hr ?hp (fun _ hk => hk.elim) (by omega) (Below.refl _ _) (Nat.le_refl _) (by simp) ?_; (case hd => rfl); (case hg => rfl); (case hr => first | (go_simp; done) | (go_simp; rfl)); (case hp => exact (Reps.none _ _)); intro v1 w1 ho1 hb1 hg1 hnew1)
          | ((with_reducible refine gate_builtin (b := .append) (xs := #[.tmp 26, .tmp 27]) rfl ?_); at_builtin
             refine Kd.R_append_rows (Kd.int .u8) (w0 := wr) wr.heap.size rfl (.tmp 26) (.tmp 27) 22 5 (.int .u8 0) 1 rfl Try.underlying22 info_u8 rfl (by decide) (by omega) v1 [] (ints b) _ _ _ (fun k => k ≠ G) (fun _ => False) rfl rfl ho1 ?aR (fun _ _ h => h) (fun _ h => h.elim) (fun k hk => by have := hb1.size; omega) hb1 hb1.size ?aL ?_
             (case aR => have hc1 := Kd.C_below HC.out (HB.out.trans (hb1.mono hwr)); rw [hbl] at hc1; exact hc1)
             (case aL => simp; omega)
             intro v2 w2 ho2 hb2 hg2 hat2
             rw [List.nil_append] at ho2
             obtain ⟨Ao, co, rfl⟩ := Kd.R_slice ho2
             rw [hbl] at ho2 ⊢
             have HO := Lib.hid ho2
             have HA2 := Lib.hid (Kd.R_below HA.out hb2)
             have HS2 := Lib.hid (HS.out.below hb2 hG)
             have HB2 := Lib.hid (HB.out.trans (hb2.mono hwr))
             have hsz2 := hb2.size
             have hbase : ∀ k, (Value.slice Ao len co).ownBlock = some k → wr.heap.size ≤ k := Kd.R_base ho2
             have HF := Lib.hid (fun (h0 : 0 < (ints b).length) => Kd.R_form ho2 h0)
             clear ho1 hb1 hg1 hnew1 hb2 hg2 hat2)
          | (go_at_call 17
             refine (Write_some b HLb.out len hlen HS2.out Ao co (Kd.R_reads' HO.out).2.2 (fun h0 x hx => ?_) ⟨by omega, by omega⟩).mono ?_
             · obtain ⟨go, cg, e, hge, _⟩ := HF.out (by omega)
               injection e with e1
               rw [e1] at hx
               cases hx
               show go ≠ G
               omega
             rintro e w3 ⟨rfl, hs3, ho3⟩
             rw [crc_append] at hs3
             have HS3 := Lib.hid hs3
             have HA3 := Lib.hid (Kd.R_step HA2.out (fun k hk hlt => ho3.block k hlt hk))
             have HO3 := Lib.hid (Kd.R_step HO.out (fun k hk hlt => ho3.block k hlt hk))
             have HB3 := Lib.hid (HB2.out.trans (ho3.below (B := w.heap.size) HB2.out.size (fun i hi => by rw [hi]; exact hGw)))
             have hsz3 := ho3.size
             clear hs3 ho3 HS2 HA2 HO HB2)
          | ((with_reducible refine gate_builtin (b := .append) (xs := #[.tmp 31, .tmp 32]) rfl ?_); at_builtin
             refine Kd.R_append_rows (Kd.int .u8) (w0 := w) w.heap.size rfl (.tmp 31) (.tmp 32) 22 5 (.int .u8 0) 1 rfl Try.underlying22 info_u8 rfl (by decide) (by omega) _ (ints a) (ints b) _ _ _ (fun k => k ≠ G) (fun _ => False) rfl rfl HA3.out ?aR (fun _ _ h => h) (fun _ h => h.elim) (fun k hk => by omega) HB3.out HB3.out.size ?aL ?_
             (case aR => have hc1 := Kd.C_below HC.out HB3.out; rw [hbl] at hc1; exact hc1)
             (case aL => rw [ints_len]; omega)
             intro v4 w4 ho4 hb4 hg4 hat4
             rw [← ints_append] at ho4
             have HS4 := Lib.hid (HS3.out.of_same (hg4.block G (by omega) (fun e => HA3.out.1 G e.symm rfl)))
             have HO4 := Lib.hid (Kd.R_mono (Kd.R_move (Kd.R_bound HO3.out) (fun k hk => hg4.block k hk.2.2.1 (fun e => by have := Kd.R_lt HA.out k e.symm; have := hk.2.1; omega))) (fun _ hk => hk.1))
             have HC4 := Lib.hid (Kd.C_below HC.out hb4)
             have k1 := Kd.C_string (P := Try.prog) (src := 22) (e := 5) (dst := 9) (c := co) Try.underlying22 Try.underlying5 Try.underlying9 (Kd.R_reads' HO4.out).2.2
             have k2 := Kd.C_string (P := Try.prog) (src := 22) (e := 5) (dst := 9) (c := cr) Try.underlying22 Try.underlying5 Try.underlying9 HC4.out
             rw [hbl] at k1 k2
             obtain ⟨A4, c4, rfl⟩ := Kd.R_slice ho4
             have hab : (ints (a ++ b)).length = a.length + len := by rw [ints_len, List.length_append, hlen]
             rw [hab] at ho4 ⊢
             have HA4 := Lib.hid ho4
             have HB4 := Lib.hid hb4
             clear ho4 hb4 hg4 hat4 HS3 HA3 HO3 HB3)
          | (go_at_call 18; refine (Value_some HS4.out).mono ?_; rintro e w5 ⟨rfl, rfl⟩)
          | (go_at_call 20; refine (Len_some HS4.out).mono ?_; rintro e w5 ⟨rfl, rfl⟩)
          | (go_at_call 19; refine (RefOf_calls (a ++ b) (by rw [← HP.out]; exact pre_lt L HL.out _) (a.length + len) (by rw [List.length_append, hlen]) (by omega) _ A4 c4 (Kd.R_reads' HA4.out).2.2).mono ?_; rintro e w5 ⟨rfl, rfl⟩))
        refine ⟨⟨j + 1, by omega, by push_cast; rfl, ?_, by rw [HP.out]; exact HA4, ?_, HB4⟩, by simp [intOf]; omega⟩
        · intro r hr hr1
          by_cases hrj : r = j
          · subst hrj
            rw [HBq.out]; omega
          · exact HAll.out r hr (by omega)
        · rw [HP.out, List.length_append, hlen]
          exact HS4
    · obtain rfl : j = n := by omega
      have hpl := pre_len L j (by omega) hall
      have hpb := pre_lt L HL.out j
      obtain ⟨a, HAq⟩ : ∃ a, Hid (pre L j = a) := ⟨pre L j, Lib.hid rfl⟩
      rw [HAq.out] at HA HS hpl hpb
      obtain ⟨tot, htot⟩ : ∃ tot, a.length = tot := ⟨_, rfl⟩
      have hil : (ints a).length = tot := by rw [ints_len, htot]
      obtain ⟨A3, c3, hv⟩ := Kd.R_slice HA.out
      rw [hil] at hv
      subst hv
      have hmax : tot ≤ maxLen := Nat.le_trans (by omega : tot ≤ 9000) (by decide)
      have HC := Lib.hid (Kd.R_reads' HA.out).2.2
      have hws := HB.out.size
      go_wp2_with (first
        | (go_at_call 17; refine (Write_none _ _).mono ?_; rintro e w5 ⟨rfl, rfl⟩)
        | (go_at_call 16; refine (Of_calls a hpb tot htot hmax _ A3 c3 HC.out).mono ?_; rintro e w6 ⟨rfl, hb6⟩; have HC6 := Lib.hid (Kd.C_below HC.out hb6); have HB6 : Hid (Below w.heap.size w w6) := HB.out.trans (hb6.mono hws); clear hb6)
        | (go_at_call 19; refine (RefOf_calls a hpb tot htot (by omega) _ A3 c3 HC6.out).mono ?_; rintro e w7 ⟨rfl, rfl⟩)
        | (go_at_call 18; refine (Value_none _).mono ?_; rintro e w5 ⟨rfl, rfl⟩)
        | (go_at_call 20; refine (Len_none _).mono ?_; rintro e w5 ⟨rfl, rfl⟩))
      go_ret
      exact ⟨rfl, HB6.out⟩
theorem cs_all (L : List (List Nat)) (hL : ∀ b ∈ L, ∀ x ∈ b, x < 256) (n : Nat) (hn : L.length = n) (A : Option Addr) (cap : Nat) (w : World) (hin : InRows w A L) :
    Calls Try.prog 4 #[.slice A n cap] w fun e w' => e = .returned (.bool true) ∧ Below w.heap.size w w' := by
  by_cases h : 30 < n
  · exact cs_big n h A cap w
  · exact cs_small L hL n hn (by omega) A cap w hin
/-- What Matrix.lean opens, as InRows has it. -/
theorem rows_in (w : World) (x : Addr) (len cap : Nat) (A : Nat → Option Addr) (Ln C : Nat → Nat) (Z : Nat → List Int) (hl : len ≤ cap)
    (h : ∀ r, r < cap → w.cell? (x.add r) = some (.slice (A r) (Ln r) (C r)) ∧ Ln r ≤ C r ∧ C r ≤ maxLen ∧ (Z r).length = C r ∧ (∀ n ∈ Z r, (Lit.int .u8 n).wf = true) ∧ (A r = none → C r = 0) ∧ ∀ a', A r = some a' → 0 ≤ a'.block ∧ ∀ c, c < C r → w.cell? (a'.add c) = some (.int .u8 ((Z r).getD c 0))) :
    ∃ L : List (List Nat), (∀ b ∈ L, ∀ x ∈ b, x < 256) ∧ L.length = len ∧ InRows w (some x) L := by
  have hbyte : ∀ r, r < cap → ∀ n ∈ Z r, 0 ≤ n ∧ n < 256 := by
    intro r hr n hn
    have := (h r hr).2.2.2.2.1 n hn
    simp [Lit.wf, IntKind.min, IntKind.max, IntKind.signed, IntKind.bits] at this
    omega
  refine ⟨(List.range len).map (fun r => ((Z r).take (Ln r)).map Int.toNat), ?_, by simp, ?_⟩
  · intro b hb y hy
    obtain ⟨r, hr, rfl⟩ := List.mem_map.1 hb
    rw [List.mem_range] at hr
    obtain ⟨z, hz, rfl⟩ := List.mem_map.1 hy
    have := hbyte r (by omega) z (List.mem_of_mem_take hz)
    omega
  · intro r hr
    simp at hr
    obtain ⟨h1, h2, h3, h4, h5, h6, h7⟩ := h r (by omega)
    have e : ((List.range len).map (fun r => ((Z r).take (Ln r)).map Int.toNat))[r]'(by simpa using hr) = ((Z r).take (Ln r)).map Int.toNat := by simp
    have el : (((Z r).take (Ln r)).map Int.toNat).length = Ln r := by rw [List.length_map, List.length_take]; omega
    rw [e]
    refine ⟨x, A r, C r, rfl, by rw [el]; exact h1, by rw [el]; exact h2, ?_⟩
    rw [ints_of ((Z r).take (Ln r)) (fun n hn => hbyte r (by omega) n (List.mem_of_mem_take hn))]
    refine Kd.C_of_reads (d := (0 : Int)) (h1 := fun _ => rfl) ⟨rfl, by rw [List.length_take]; have : maxLen = 9223372036854775807 := rfl; omega, fun h0 => ?_⟩
    rw [List.length_take] at h0
    cases ha : A r with
    | none => have := h6 ha; omega
    | some a' =>
      refine ⟨a', rfl, fun j hj => ?_⟩
      rw [List.length_take] at hj
      rw [(h7 a' ha).2 j (by omega)]
      congr 2
      rw [List.getD_eq_getElem?_getD, List.getD_eq_getElem?_getD, List.getElem?_take, if_pos (by omega)]
end Go.Proofs.Ytoooienmcogbhaa.Chk
