/- Texts of this session, merged. -/
import Derived.Test.YtlbjoflmfboeeaaMqr3
import Derived.Test.YtlbjoflmfboeeaaRows
/-
  Law 12's tools: fill, same, plan, lives; no condition but those told.
-/
set_option linter.unusedVariables false
set_option linter.unusedSimpArgs false
namespace Go.Proofs.Ytlbjoflmfboeeaa.Qnt
open Go.RowKit Go.Proofs.Ytlbjoflmfboeeaa Go.Proofs.YtlbjoflmfboeeaaW.PrintWords Go.Proofs.YtlbjoflmfboeeaaW.PrintLast Go.Proofs.YtlbjoflmfboeeaaW.PrintMore Go.Proofs.Ytlbjoflmfboeeaa.Deco Go.Proofs.Ytlbjoflmfboeeaa.Ceil

theorem C_of_src {w : World} {k : IntKind} {A : Option Addr} {n c : Nat} {ys : List Int} (h : Src w k (.slice A n c) ys) (hl : n ≤ 9223372036854775807) : Kd.C (Kd.int k) w A ys.length ys := by
  obtain ⟨A', c', e, hc⟩ := h
  injection e with e1 e2 e3
  subst e1 e2
  refine Kd.C_of_reads (enc := Value.int k) (d := (0 : Int)) (h1 := fun _ => rfl) ⟨rfl, hl, fun h0 => ?_⟩
  obtain ⟨ad, e, hd⟩ := hc h0
  refine ⟨ad, e, fun j hj => ?_⟩
  rw [hd j hj]
  congr 2
  exact (Dig.getD_get ys j hj).symm
theorem Hp.row_ne {W w : World} {t t' : TypeId} {k k' : IntKind} {g g' c c' : Nat} {xs xs' : List Int} {l : List Ast} (h : Hp W w (rowA t k g c xs :: rowA t' k' g' c' xs' :: l)) : g ≠ g' := by
  obtain ⟨_, _, ⟨_, rfl⟩, ⟨_, rfl⟩, _, _, ne, _⟩ := h.open2
  exact fun e => ne g' rfl e.symm
theorem fillTo_map (f : Nat → Int) (n : Nat) : fillTo f n n = (List.range n).map f := by
  apply List.ext_getElem
  · simp [fillTo]
  · intro i h1 h2
    simp [fillTo] at h1 ⊢
    omega
theorem fv_bd {l c : List Int} (hl : ∀ x ∈ l, -2147483648 ≤ x ∧ x < 2147483648) (hc : Erg.Rt c) (over : Bool) (i : Nat) (hi : i < 512) : -2147483648 ≤ Bno.fv l c over i ∧ Bno.fv l c over i < 2147483648 := by
  have h1 := Bno.lineOf_bd l hl i
  unfold Bno.fv
  split
  · exact h1
  · have hb : 0 ≤ rd c (Bno.bandOf (i : Int)) ∧ rd c (Bno.bandOf (i : Int)) ≤ 26 := hc.getD _
    have := Bno.pow26 ⟨(rd c (Bno.bandOf (i : Int))).toNat, by omega⟩
    have := Bno.tmod_bd (Bno.lineOf l i) (2 ^ (rd c (Bno.bandOf (i : Int))).toNat) h1.1 h1.2 this.1 this.2.1
    omega
theorem fill_h {W w : World} {L : List Ast} (H : Hp W w L) {A : Option Addr} {n ca : Nat} {B : Option Addr} {cb : Nat} {l c : List Int} (rl : Src w .i32 (.slice A n ca) l) (hca : n ≤ ca) (hn : n ≤ 1500) (hl : ∀ x ∈ l, -2147483648 ≤ x ∧ x < 2147483648)
    (rc : Src w .i64 (.slice B 21 cb) c) (hcb : 21 ≤ cb) (hc : Erg.Rt c) (over : Bool) :
    Calls Try.prog 50 #[.slice A n ca, .slice B 21 cb, .bool over] w fun en w' => ∃ g1 k1 g2 k2, en = .returned (.tuple #[.slice (some ⟨g1, 0, none⟩) 512 k1, .slice (some ⟨g2, 0, none⟩) 512 k2]) ∧ 512 ≤ k1 ∧
      Hp W w' (rowA 21 .i32 g1 k1 ((List.range 512).map (Bno.fv l c over)) :: rowA 2 .i64 g2 k2 ((List.range 512).map (Bno.fv l c over)) :: L) := by
  have e1 : l.length = n := by obtain ⟨_, _, e, _⟩ := rl; injection e with _ e _; exact e.symm
  have c1 := C_of_src rl (by omega)
  have c2 := C_of_src rc (by decide)
  have h := Bno.fill_calls A ca l B cb c over w c1 (by omega) c2 (by rw [hc.len]; exact hcb) ⟨by omega, hl, hc.len, fun b hb => hc.getD b⟩
  rw [e1, hc.len] at h
  refine h.mono ?_
  rintro en w' ⟨v0, v1, rfl, r0, r1, b⟩
  obtain ⟨g1, k1, rfl, hg1, r1'⟩ := rowI_of_R r0 (by simp)
  obtain ⟨g2, k2, rfl, hg2, r2'⟩ := rowI_of_R r1 (by simp)
  have hk := r1'.len
  have ln : ((List.range 512).map (Bno.fv l c over)).length = 512 := by simp
  rw [ln] at hk ⊢
  refine ⟨g1, k1, g2, k2, rfl, hk.1, ?_⟩
  have hne : g1 ≠ g2 := fun e => by
    subst e
    obtain ⟨_, b1, _⟩ := r1'
    obtain ⟨_, b2, _⟩ := r2'
    exact absurd (Blk.inj b1 b2).1 (by decide)
  exact Hp.apart (H.new b (A' := Ast.both (rowA 21 .i32 g1 k1 _) (rowA 2 .i64 g2 k2 _)) ⟨_, _, ⟨r1', rfl⟩, ⟨r2', rfl⟩, fun k hk e => hne (e.symm.trans hk), rfl⟩ (fun k hk => by
    rcases hk with hk | hk
    · have : k = g1 := hk
      omega
    · have : k = g2 := hk
      omega))
set_option maxRecDepth 100000 in
theorem same_calls {w : World} {u v : Value} {l : List Int} (s1 : Src w .i32 u l) (s2 : Src w .i64 v l) (hl : l.length ≤ 1000000) (hb : ∀ x ∈ l, -2147483648 ≤ x ∧ x < 2147483648) :
    Calls Try.prog 56 #[u, v] w fun e w' => e = .returned (.bool true) ∧ ∃ n, w' = w.drewN n := by
  have S1 := Lib.hid s1
  have S2 := Lib.hid s2
  have HB := Lib.hid hb
  obtain ⟨A, c, rfl, _⟩ := s1
  obtain ⟨B, c2, rfl, _⟩ := s2
  obtain ⟨n, hn⟩ : ∃ n, l.length = n := ⟨_, rfl⟩
  rw [hn] at S1 S2 hl ⊢
  have HN := Lib.hid hn
  clear hn hb
  go_enter Try.func56, Try.ntmps56
  go_wp2_with fail
  go_loopw [13] (fun u wr => ∃ k : Nat, k ≤ n ∧ u = .int .i64 (k : Int) ∧ ∃ q, wr = w.drewN q) (fun u _ => n - (intOf u).toNat)
  case atStart => exact ⟨0, by omega, rfl, 0, rfl⟩
  case round =>
    obtain ⟨k, hk, rfl, q, rfl⟩ := hrel
    by_cases hlt : k < n
    · obtain ⟨ad, rfl, d1⟩ := S1.out.cell (j := k) (by rw [HN.out]; exact hlt)
      obtain ⟨ad', rfl, d2⟩ := S2.out.cell (j := k) (by rw [HN.out]; exact hlt)
      have d1 : (w.drewN q).cell? (ad.add k) = _ := d1
      have d2 : (w.drewN q).cell? (ad'.add k) = _ := d2
      have ik : (k : Int) < (n : Int) := by omega
      have bx := HB.out _ (List.getElem_mem (show k < l.length by rw [HN.out]; exact hlt))
      generalize l[k]'(by rw [HN.out]; exact hlt) = x at *
      have w1 : IntKind.i64.wrap x = x := wrapI64 (by omega) (by omega)
      go_wp2_with fail
      go_quiet (fail)
      go_wp2_with fail
      go_roundw
      case rel => exact ⟨k + 1, by omega, by push_cast; rfl, q + nq, rfl⟩
      case measure =>
        show n - ((k : Int) + 1).toNat < n - (k : Int).toNat
        omega
    · obtain rfl : k = n := by omega
      go_wp2_with fail
      go_ret
      exact ⟨rfl, q, rfl⟩
/-- Ceilings and steps of any bytes. -/
def pc (b : List Int) (i : Nat) : Int := if b.length = 0 then 0 else b.getD (i % b.length) 0 % 27
def ps (b : List Int) (i : Nat) : Int := if b.length = 0 then 0 else min (max (max (pc b i - b.getD ((i + 1) % b.length) 0 % 14) 0) (pc b i - 12)) 26
def PC (b : List Int) : List Int := fillTo (pc b) 21 21
def PS (b : List Int) : List Int := fillTo (ps b) 21 21
theorem getD_fill (f : Nat → Int) (n k : Nat) (h : k < n) : (fillTo f n n).getD k 0 = f k := by
  rw [Dig.getD_get _ k (by rw [fillTo_len]; exact h)]
  exact fillTo_all' f n k h
theorem plan_ok (b : List Int) (hb : ∀ x ∈ b, 0 ≤ x ∧ x ≤ 255) : Plan (PC b) (PS b) := by
  have h1 : ∀ k, 0 ≤ pc b k ∧ pc b k ≤ 26 := fun k => by unfold pc; split <;> omega
  have h2 : ∀ k, (0 ≤ ps b k ∧ ps b k ≤ 26) ∧ pc b k - ps b k ≤ 12 := fun k => by
    have := h1 k
    unfold ps
    split
    · rename_i h0
      have e : pc b k = 0 := by unfold pc; rw [if_pos h0]
      omega
    · omega
  refine ⟨⟨fillTo_len _ _ _, fun k hk => ?_⟩, ⟨fillTo_len _ _ _, fun k hk => ?_⟩, fun k hk => ?_⟩
  · have hk : k < 21 := by unfold PC at hk; rwa [fillTo_len] at hk
    have e : (PC b)[k] = pc b k := fillTo_all' (pc b) 21 k hk
    have e2 := h1 k
    rw [← e] at e2
    exact e2
  · have hk : k < 21 := by unfold PS at hk; rwa [fillTo_len] at hk
    have e : (PS b)[k] = ps b k := fillTo_all' (ps b) 21 k hk
    have e2 := (h2 k).1
    rw [← e] at e2
    exact e2
  · unfold PC PS
    rw [getD_fill _ 21 k hk, getD_fill _ 21 k hk]
    exact (h2 k).2
set_option maxHeartbeats 4000000 in
set_option maxRecDepth 100000 in
theorem plan_h {W w : World} {L : List Ast} (H : Hp W w L) {A : Option Addr} {n ca : Nat} {b : List Int} (rb : Rd W L .u8 (.slice A n ca) b) (hn : n ≤ 1000) (hb : ∀ x ∈ b, 0 ≤ x ∧ x ≤ 255) :
    Calls Try.prog 49 #[.slice A n ca] w fun en w' => ∃ g1 g2, en = .returned (.tuple #[.slice (some ⟨g1, 0, none⟩) 21 21, .slice (some ⟨g2, 0, none⟩) 21 21]) ∧ Hp W w' (rowA 3 .i64 g1 21 (PC b) :: rowA 3 .i64 g2 21 (PS b) :: L) := by
  have hm : ∀ w : World, (Instr.makeSlice 54 (.int .i64 21) (.int .i64 21)).run Try.prog w = .ok (.slice (some ⟨w.heap.size, 0, none⟩) 21 21) (w.alloc (.cells (madeCells #[.int .i64 0] 21) 3)) := fun w => run_make_row' 54 3 (.int .i64 0) 8 Try.underlying54 (by kernel_rfl) rfl .i64 .i64 21 (by omega) (by omega) w
  have e1 : b.length = n := by obtain ⟨_, _, e, _⟩ := rb w H; injection e with _ e _; exact e.symm
  have RB := Lib.hid rb
  have HB := Lib.hid hb
  have H0 := Lib.hid H
  clear rb hb H
  go_enter Try.func49, Try.ntmps49
  go_wp2_with fail
  have Z0 := fillTo_zero (pc b) 21
  have Z1 := fillTo_zero (ps b) 21
  have HZ : Hid (List.replicate 21 (0 : Int) = fillTo (pc b) 21 0 ∧ List.replicate 21 (0 : Int) = fillTo (ps b) 21 0) := Lib.hid ⟨Z0.symm, Z1.symm⟩
  clear Z0 Z1
  go_cut [4, 5] (fun v5 v6 wc => ∃ G1 G2 : Nat, v5 = .slice (some ⟨G1, 0, none⟩) 21 21 ∧ v6 = .slice (some ⟨G2, 0, none⟩) 21 21 ∧ Hid (Hp W wc (rowA 3 .i64 G1 21 (List.replicate 21 0) :: rowA 3 .i64 G2 21 (List.replicate 21 0) :: L)))
  case first =>
    have h2 := (H0.out.new_row 3 .i64 21 0 (by decide)).new_row 3 .i64 21 0 (by decide)
    rw [show (w.alloc (.cells (madeCells #[.int .i64 0] 21) 3)).heap.size = w.heap.size + 1 from by simp] at h2
    have H2 := Lib.hid h2
    clear h2
    go_region
    all_goals (go_wp2; go_meet)
    · exact ⟨_, _, rfl, rfl, Lib.hid H2.out.up1.drew⟩
    · exact ⟨_, _, rfl, rfl, Lib.hid H2.out.drew⟩
  case rest =>
    obtain ⟨G1, G2, rfl, rfl, H⟩ := hcut
    have H1 : Hid (Hp W wc (rowA 3 .i64 G1 21 (fillTo (pc b) 21 0) :: rowA 3 .i64 G2 21 (fillTo (ps b) 21 0) :: L)) := Lib.hid (by rw [← HZ.out.1, ← HZ.out.2]; exact H.out)
    clear H HZ H0 hm
    go_wp2_with fail
    go_loopw [11] (fun u wr => ∃ k : Nat, k ≤ 21 ∧ u = .int .i64 (k : Int) ∧ Hid (Hp W wr (rowA 3 .i64 G1 21 (fillTo (pc b) 21 k) :: rowA 3 .i64 G2 21 (fillTo (ps b) 21 k) :: L))) (fun u _ => 21 - (intOf u).toNat)
    case atStart => exact ⟨0, by omega, rfl, H1⟩
    case round =>
      clear H1
      obtain ⟨k, hk, rfl, H⟩ := hrel
      by_cases hlt : k < 21
      · have SC := Lib.hid (fillTo_set (pc b) 21 k)
        have SS := Lib.hid (fillTo_set (ps b) 21 k)
        by_cases hz : 0 < n
        · have hk1 : k % n < n := Nat.mod_lt _ hz
          have hk2 : (k + 1) % n < n := Nat.mod_lt _ hz
          obtain ⟨ad, rfl, _⟩ := (RB.out wr H.out.drop.drop).cell (j := k % n) (by rw [e1]; exact hk1)
          have BD := Lib.hid ((show Rd W L .u8 (.slice (some ad) b.length ca) b by rw [e1]; exact RB.out).cell (j := k % n) (by rw [e1]; exact hk1))
          have BE := Lib.hid ((show Rd W L .u8 (.slice (some ad) b.length ca) b by rw [e1]; exact RB.out).cell (j := (k + 1) % n) (by rw [e1]; exact hk2))
          have b1 := HB.out _ (List.getElem_mem (show k % n < b.length by rw [e1]; exact hk1))
          have b2 := HB.out _ (List.getElem_mem (show (k + 1) % n < b.length by rw [e1]; exact hk2))
          have HP : Hid (pc b k = b[k % n]'(by rw [e1]; exact hk1) % 27) := Lib.hid (by
            have h2 := Dig.getD_get b (k % n) (by rw [e1]; exact hk1)
            unfold pc
            rw [if_neg (by omega), ← h2]
            congr 3)
          have HQ : Hid (ps b k = min (max (max (b[k % n]'(by rw [e1]; exact hk1) % 27 - b[(k + 1) % n]'(by rw [e1]; exact hk2) % 14) 0) (b[k % n]'(by rw [e1]; exact hk1) % 27 - 12)) 26) := Lib.hid (by
            have h3 := Dig.getD_get b ((k + 1) % n) (by rw [e1]; exact hk2)
            unfold ps
            rw [if_neg (by omega), HP.out, ← h3]
            congr 6
            rw [e1])
          generalize b[k % n]'(by rw [e1]; exact hk1) = x at *
          generalize b[(k + 1) % n]'(by rw [e1]; exact hk2) = y at *
          rw [HP.out] at SC
          rw [HQ.out] at SS
          obtain ⟨j1, hj1⟩ : ∃ j, k % n = j := ⟨_, rfl⟩
          obtain ⟨j2, hj2⟩ : ∃ j, (k + 1) % n = j := ⟨_, rfl⟩
          rw [hj1] at BD hk1
          rw [hj2] at BE hk2
          have t1 : Int.tmod (k : Int) (n : Int) = (j1 : Int) := by rw [← hj1, Int.tmod_eq_emod_of_nonneg (by omega)]; exact (Int.natCast_emod k n).symm
          have t2 : Int.tmod ((k : Int) + 1) (n : Int) = (j2 : Int) := by rw [← hj2, Int.tmod_eq_emod_of_nonneg (by omega)]; exact (Int.natCast_emod (k + 1) n).symm
          have t3 : Int.tmod x 27 = x % 27 := Int.tmod_eq_emod_of_nonneg (by omega)
          have t4 : Int.tmod y 14 = y % 14 := Int.tmod_eq_emod_of_nonneg (by omega)
          have z1 : (n : Int) ≠ 0 := by omega
          have z3 : ¬ n = 0 := by omega
          have z2 : ((n : Int) == 0) = false := by rw [beq_eq_false_iff_ne]; omega
          have i1 : (j1 : Int) < (n : Int) := by omega
          have i2 : (j2 : Int) < (n : Int) := by omega
          have iz : (0 : Int) < (n : Int) := by omega
          have v1 : IntKind.i64.wrap (j1 : Int) = (j1 : Int) := wrapI64 (by omega) (by omega)
          have v2 : IntKind.i64.wrap (j2 : Int) = (j2 : Int) := wrapI64 (by omega) (by omega)
          have v3 : IntKind.i64.wrap (x % 27) = x % 27 := wrapI64 (by omega) (by omega)
          have v4 : IntKind.i64.wrap (y % 14) = y % 14 := wrapI64 (by omega) (by omega)
          have v5 : IntKind.i64.wrap x = x := wrapI64 (by omega) (by omega)
          have v6 : IntKind.i64.wrap y = y := wrapI64 (by omega) (by omega)
          have dk := H.out.row.cell (i := k) (by rw [fillTo_len]; exact hlt)
          have fk := H.out.row.free k
          have d1 := BD.out wr H.out.drop.drop
          clear hj1 hj2
          generalize (fillTo (pc b) 21 k)[k]'(by rw [fillTo_len]; exact hlt) = y0 at *
          go_wp2_with fail
          have H1 := Lib.hid (H.out.set k (x % 27))
          rw [SC.out] at H1
          clear H dk fk d1
          generalize wr.setCell ⟨G1, k, none⟩ (.int .i64 (x % 27)) = w1 at *
          have GC : (fillTo (pc b) 21 (k + 1))[k]'(by rw [fillTo_len]; exact hlt) = x % 27 := by
            rw [← HP.out]; simp [fillTo]
          have d3 : w1.drew.cell? ⟨G1, k, none⟩ = some (.int .i64 (x % 27)) := by rw [← GC]; exact H1.out.drew.row.cell (by rw [fillTo_len]; exact hlt)
          have d4 : w1.drew.cell? (ad.add j2) = some (.int .u8 y) := BE.out _ H1.out.drew.drop.drop
          have D5 := Lib.hid (fun v : Int => (show (w1.drew.setCell ⟨G2, k, none⟩ (.int .i64 v)).cell? ⟨G1, k, none⟩ = some (.int .i64 (x % 27)) from by rw [← GC]; exact (H1.out.drew.up1.set k v).up1.row.cell (by rw [fillTo_len]; exact hlt)))
          have D6 := Lib.hid (fun v : Int => (show (w1.drew.setCell ⟨G2, k, none⟩ (.int .i64 v)).cell? (ad.add j2) = some (.int .u8 y) from BE.out _ (H1.out.drew.up1.set k v).up1.drop.drop))
          have dk := H1.out.drew.up1.row.cell (i := k) (by rw [fillTo_len]; exact hlt)
          have fk := H1.out.drew.up1.row.free k
          generalize (fillTo (ps b) 21 k)[k]'(by rw [fillTo_len]; exact hlt) = y1 at *
          have v7 : IntKind.i64.wrap (x % 27 - y % 14) = x % 27 - y % 14 := wrapI64 (by omega) (by omega)
          have v8 : IntKind.i64.wrap (x % 27 - 12) = x % 27 - 12 := wrapI64 (by omega) (by omega)
          have v9 : IntKind.i64.wrap ((k : Int) + 1) = (k : Int) + 1 := wrapI64 (by omega) (by omega)
          clear GC
          go_region_held3 (fun w' => w'.cell? ⟨G1, k, none⟩ = some (.int .i64 (x % 27)) ∧ w'.cell? (ad.add j2) = some (.int .u8 y)) (first | exact ⟨d3, d4⟩ | exact ⟨D5.out _, D6.out _⟩) (fail)
          go_wp2_with fail
          go_roundw
          case rel =>
            refine ⟨k + 1, by omega, by push_cast; rfl, Lib.hid ?_⟩
            have SV : (fillTo (ps b) 21 k).set k (if (if x % 27 - y % 14 < 0 then 0 else x % 27 - y % 14) < x % 27 - 12 then x % 27 - 12 else if x % 27 - y % 14 < 0 then 0 else x % 27 - y % 14) = fillTo (ps b) 21 (k + 1) := by
              rw [← SS.out]
              congr 1
              split <;> split <;> omega
            rw [← SV]
            exact (H1.out.up1.set k _).up1.drew
          case measure =>
            show 21 - ((k : Int) + 1).toNat < 21 - (k : Int).toNat
            omega
        · obtain rfl : n = 0 := by omega
          have P0 : Hid (pc b k = 0) := Lib.hid (by unfold pc; rw [if_pos e1])
          have Q0 : Hid (ps b k = 0) := Lib.hid (by unfold ps; rw [if_pos e1])
          have KC := Lib.hid (fillTo_skip (pc b) 21 k P0.out)
          have KS := Lib.hid (fillTo_skip (ps b) 21 k Q0.out)
          go_wp2_with fail
          go_roundw
          case rel => exact ⟨k + 1, by omega, by push_cast; rfl, Lib.hid (by rw [← KC.out, ← KS.out]; exact H.out)⟩
          case measure =>
            show 21 - ((k : Int) + 1).toNat < 21 - (k : Int).toNat
            omega
      · obtain rfl : k = 21 := by omega
        go_wp2_with fail
        go_ret2
        exact ⟨_, _, rfl, H.out⟩
end Go.Proofs.Ytlbjoflmfboeeaa.Qnt

/-
  Law 12's lives; no condition but those told.
-/
set_option linter.unusedVariables false
set_option linter.unusedSimpArgs false
namespace Go.Proofs.Ytlbjoflmfboeeaa.Qnt
open Go.RowKit Go.Proofs.Ytlbjoflmfboeeaa Go.Proofs.YtlbjoflmfboeeaaW.PrintWords Go.Proofs.YtlbjoflmfboeeaaW.PrintLast Go.Proofs.YtlbjoflmfboeeaaW.PrintMore Go.Proofs.Ytlbjoflmfboeeaa.Deco Go.Proofs.Ytlbjoflmfboeeaa.Ceil

/-- The chapter's example. -/
def XL : List Int := (List.replicate 512 0).set 0 21
def CL : List Int := (List.replicate 21 0).set 0 5
def SL : List Int := (List.replicate 21 0).set 0 2
theorem plan_L : Plan CL SL := qrB_plan (by decide +kernel)
theorem hv_L0 : hv CL SL XL 1 0 = 20 := by decide +kernel
theorem hv_L1 : hv CL SL XL 1 1 = 0 := by decide +kernel
theorem xl_L : XL.length = 512 := by unfold XL; rw [List.length_set, List.length_replicate]
theorem xb_L : ∀ y ∈ XL, -2147483648 ≤ y ∧ y < 2147483648 := by
  intro y hy
  unfold XL at hy
  rcases List.mem_or_eq_of_mem_set hy with h | h
  · have := List.eq_of_mem_replicate h; omega
  · omega
attribute [local irreducible] hv XL CL SL
set_option maxHeartbeats 4000000 in
set_option maxRecDepth 100000 in
theorem lives_h {W w : World} {L : List Ast} (H : Hp W w L) : Calls Try.prog 48 #[] w fun en w' => en = .returned (.bool true) ∧ Hp W w' L := by
  have hm : ∀ w : World, (Instr.makeSlice 54 (.int .i64 21) (.int .i64 21)).run Try.prog w = .ok (.slice (some ⟨w.heap.size, 0, none⟩) 21 21) (w.alloc (.cells (madeCells #[.int .i64 0] 21) 3)) := fun w => run_make_row' 54 3 (.int .i64 0) 8 Try.underlying54 (by kernel_rfl) rfl .i64 .i64 21 (by omega) (by omega) w
  have hm2 : ∀ w : World, (Instr.makeSlice 86 (.int .i64 512) (.int .i64 512)).run Try.prog w = .ok (.slice (some ⟨w.heap.size, 0, none⟩) 512 512) (w.alloc (.cells (madeCells #[.int .i32 0] 512) 21)) := fun w => run_make_row' 86 21 (.int .i32 0) 4 Try.underlying86 (by kernel_rfl) rfl .i64 .i64 512 (by omega) (by omega) w
  have H1 : Hid (Hp W (w.alloc (.cells (madeCells #[.int .i32 0] 512) 21)) (rowA 21 .i32 w.heap.size 512 (List.replicate 512 0) :: L)) := Lib.hid (H.new_row 21 .i32 512 0 (by decide))
  have dk := H1.out.row.cell (i := 0) (by simp)
  have fk := H1.out.row.free 0
  go_enter Try.func48, Try.ntmps48
  go_wp2_with fail
  have H2 : Hid (Hp W (w.alloc (.cells ((madeCells #[.int .i32 0] 512).setIfInBounds 0 (.int .i32 21)) 21)) (rowA 21 .i32 w.heap.size 512 ((List.replicate 512 0).set 0 21) :: L)) := Lib.hid (by
    have := H1.out.set 0 21
    rwa [World.setCell_alloc_new] at this)
  have hsz : (w.alloc (.cells ((madeCells #[.int .i32 0] 512).setIfInBounds 0 (.int .i32 21)) 21)).heap.size = w.heap.size + 1 := by simp
  clear H1 dk fk H hm2
  generalize w.alloc (.cells ((madeCells #[.int .i32 0] 512).setIfInBounds 0 (.int .i32 21)) 21) = w2 at *
  generalize w.heap.size = GL at *
  go_cut [2, 3] (fun v5 v6 wc => ∃ G1 G2 : Nat, v5 = .slice (some ⟨G1, 0, none⟩) 21 21 ∧ v6 = .slice (some ⟨G2, 0, none⟩) 21 21 ∧ Hid (Hp W wc (rowA 3 .i64 G1 21 (List.replicate 21 0) :: rowA 3 .i64 G2 21 (List.replicate 21 0) :: rowA 21 .i32 GL 512 ((List.replicate 512 0).set 0 21) :: L)))
  case first =>
    have h2 := (H2.out.new_row 3 .i64 21 0 (by decide)).new_row 3 .i64 21 0 (by decide)
    rw [show (w2.alloc (.cells (madeCells #[.int .i64 0] 21) 3)).heap.size = w2.heap.size + 1 from by simp] at h2
    rw [hsz] at h2
    have H3 := Lib.hid h2
    clear h2
    go_region
    all_goals (go_wp2; go_meet)
    · exact ⟨_, _, rfl, rfl, Lib.hid H3.out.up1.drew⟩
    · exact ⟨_, _, rfl, rfl, Lib.hid H3.out.drew⟩
  case rest =>
    obtain ⟨G1, G2, rfl, rfl, H⟩ := hcut
    clear H2 hm hsz
    have dk1 := H.out.row.cell (i := 0) (by simp)
    have fk1 := H.out.row.free 0
    have dk2 := H.out.up1.row.cell (i := 0) (by simp)
    have fk2 := H.out.up1.row.free 0
    have hne := Hp.row_ne H.out
    have hne2 := hne.symm
    have H5 : Hid (Hp W ((wc.setCell ⟨G1, 0, none⟩ (.int .i64 5)).setCell ⟨G2, 0, none⟩ (.int .i64 2)) (rowA 3 .i64 G1 21 CL :: rowA 3 .i64 G2 21 SL :: rowA 21 .i32 GL 512 XL :: L)) := Lib.hid (by unfold CL SL XL; exact ((H.out.set 0 5).up1.set 0 2).up1)
    clear H
    go_wp2_with fail
    refine (Heard_h H5.out 1 ((Rd.rown xl_L).tail.tail) (Rd.rown (n := 21) plan_L.hc.len) ((Rd.rown (n := 21) plan_L.hs.len).tail) plan_L xl_L xb_L).mono ?_
    rintro e6 w6 ⟨g, cap, rfl, h6⟩
    have H6 := Lib.hid h6
    have r0 := h6.row.cell (i := 0) (by rw [fillTo_len]; decide)
    have r1 := h6.row.cell (i := 1) (by rw [fillTo_len]; decide)
    have f0 : (fillTo (hv CL SL XL 1) 512 512)[0]'(by rw [fillTo_len]; decide) = 20 := by rw [← hv_L0]; exact fillTo_all' _ 512 0 (by decide)
    have f1 : (fillTo (hv CL SL XL 1) 512 512)[1]'(by rw [fillTo_len]; decide) = 0 := by rw [← hv_L1]; exact fillTo_all' _ 512 1 (by decide)
    rw [f0] at r0
    rw [f1] at r1
    clear f0 f1 h6 H5 dk1 dk2 fk1 fk2
    go_wp2_with fail
    go_ret
    exact ⟨rfl, H6.out.drop.drop.drop.drop⟩
end Go.Proofs.Ytlbjoflmfboeeaa.Qnt

/-
  Law 12: QuantArgs: what is not taken, and what is right so far.
-/
set_option linter.unusedVariables false
set_option linter.unusedSimpArgs false
namespace Go.Proofs.Ytlbjoflmfboeeaa.Qnt
open Go.RowKit Go.Proofs.Ytlbjoflmfboeeaa Go.Proofs.YtlbjoflmfboeeaaW.PrintWords Go.Proofs.YtlbjoflmfboeeaaW.PrintLast Go.Proofs.YtlbjoflmfboeeaaW.PrintMore Go.Proofs.Ytlbjoflmfboeeaa.Deco Go.Proofs.Ytlbjoflmfboeeaa.Ceil

theorem Put_nil (ul uc us : Value) (w : World) : Calls Try.prog 57 #[.pointer none, ul, uc, us] w fun en w' => en = .returned (.int .i64 1) ∧ w' = w := by
  go_enter Try.func57, Try.ntmps57
  go_wp2_with fail
  go_ret
  exact ⟨rfl, rfl⟩
theorem Put_few (e : Addr) (A : Option Addr) (n ca : Nat) (hn : n ≠ 512) (uc us : Value) (w : World) : Calls Try.prog 57 #[.pointer (some e), .slice A n ca, uc, us] w fun en w' => en = .returned (.int .i64 1) ∧ w' = w := by
  have h1 : ((n : Int) == 512) = false := by rw [beq_eq_false_iff_ne]; omega
  have h2 : ¬ (n : Int) = 512 := by omega
  go_enter Try.func57, Try.ntmps57
  go_wp2_with fail
  go_ret
  exact ⟨rfl, rfl⟩
theorem Put_bad {w : World} (e : Addr) (A : Option Addr) (ca : Nat) {uc us : Value} {c s : List Int} (s1 : Src w .i64 uc c) (s2 : Src w .i64 us s) (h1 : c.length ≤ 1000000000) (h2 : s.length ≤ 1000000000) (hq : qrB c s = false) :
    Calls Try.prog 57 #[.pointer (some e), .slice A 512 ca, uc, us] w fun en w' => en = .returned (.int .i64 1) ∧ ∃ n, w' = w.drewN n := by
  have Q := Lib.hid (qright_calls s1 s2 h1 h2)
  rw [hq] at Q
  obtain ⟨B, cb, rfl⟩ := s1.form
  obtain ⟨C, cc, rfl⟩ := s2.form
  go_enter Try.func57, Try.ntmps57
  go_wp2_with fail
  refine Q.out.mono ?_
  rintro e1 w1 ⟨rfl, q, rfl⟩
  go_wp2_with fail
  go_ret
  exact ⟨rfl, q, rfl⟩
theorem Get_nil (uc us seed : Value) (w : World) : Calls Try.prog 54 #[.pointer none, uc, us, seed] w fun en w' => en = .returned (.tuple #[.slice none 0 0, .int .i64 1]) ∧ w' = w := by
  go_enter Try.func54, Try.ntmps54
  go_wp2_with fail
  go_ret2
  exact ⟨rfl, rfl⟩
theorem Get_bad {w : World} (d : Addr) {uc us seed : Value} {c s : List Int} (s1 : Src w .i64 uc c) (s2 : Src w .i64 us s) (h1 : c.length ≤ 1000000000) (h2 : s.length ≤ 1000000000) (hq : qrB c s = false) :
    Calls Try.prog 54 #[.pointer (some d), uc, us, seed] w fun en w' => en = .returned (.tuple #[.slice none 0 0, .int .i64 1]) ∧ ∃ n, w' = w.drewN n := by
  have Q := Lib.hid (qright_calls s1 s2 h1 h2)
  rw [hq] at Q
  obtain ⟨B, cb, rfl⟩ := s1.form
  obtain ⟨C, cc, rfl⟩ := s2.form
  go_enter Try.func54, Try.ntmps54
  go_wp2_with fail
  refine Q.out.mono ?_
  rintro e1 w1 ⟨rfl, q, rfl⟩
  go_wp2_with fail
  go_ret2
  exact ⟨rfl, q, rfl⟩
theorem Heard_few (A : Option Addr) (n ca : Nat) (hn : n ≠ 512) (uc us seed : Value) (w : World) : Calls Try.prog 51 #[.slice A n ca, uc, us, seed] w fun en w' => en = .returned (.tuple #[.slice none 0 0, .int .i64 1]) ∧ w' = w := by
  have h1 : ((n : Int) == 512) = false := by rw [beq_eq_false_iff_ne]; omega
  have h2 : ¬ (n : Int) = 512 := by omega
  go_enter Try.func51, Try.ntmps51
  go_wp2_with fail
  go_ret2
  exact ⟨rfl, rfl⟩
theorem Heard_bad {w : World} (A : Option Addr) (ca : Nat) {uc us seed : Value} {c s : List Int} (s1 : Src w .i64 uc c) (s2 : Src w .i64 us s) (h1 : c.length ≤ 1000000000) (h2 : s.length ≤ 1000000000) (hq : qrB c s = false) :
    Calls Try.prog 51 #[.slice A 512 ca, uc, us, seed] w fun en w' => en = .returned (.tuple #[.slice none 0 0, .int .i64 1]) ∧ ∃ n, w' = w.drewN n := by
  have Q := Lib.hid (qright_calls s1 s2 h1 h2)
  rw [hq] at Q
  obtain ⟨B, cb, rfl⟩ := s1.form
  obtain ⟨C, cc, rfl⟩ := s2.form
  go_enter Try.func51, Try.ntmps51
  go_wp2_with fail
  refine Q.out.mono ?_
  rintro e1 w1 ⟨rfl, q, rfl⟩
  go_wp2_with fail
  go_ret2
  exact ⟨rfl, q, rfl⟩
set_option maxRecDepth 100000 in
theorem rNoise_big (seed line : Int) (m : Nat) (hm : 1 ≤ m) (hm2 : m ≤ 50) (w : World) : Calls Try.prog 59 #[.int .u32 seed, .int .i64 line, .int .i64 ((m : Int) + 2)] w fun e w' => ∃ r : Int, e = .returned (.int .i64 r) ∧ w' = w := by
  have h1 := pw_pos m
  have h2 : (2 : Int) ^ m ≤ 2 ^ 50 := pw_le (by omega)
  have e50 : (2 : Int) ^ 50 = 1125899906842624 := by decide
  obtain ⟨g, hg⟩ : ∃ g : Int, (2 : Int) ^ m = g := ⟨_, rfl⟩
  rw [hg] at h1 h2
  have w1 : IntKind.i64.wrap g = g := wrapI64 (by omega) (by omega)
  have w2 : IntKind.i64.wrap (-g) = -g := wrapI64 (by omega) (by omega)
  have w3 : IntKind.i64.wrap ((m : Int) + 2 - 2) = (m : Int) := wrapI64 (by omega) (by omega) |>.trans (by omega)
  cases hc : ((seed * 2654435761 + line % 4294967296 * 40503 + 12345) % 4294967296 * 1664525 % 4294967296 / 2147483648 == 1) with
  | true =>
    go_enter Try.func59, Try.ntmps59
    go_wp2_with fail
    go_ret
    exact ⟨_, rfl, rfl⟩
  | false =>
    go_enter Try.func59, Try.ntmps59
    go_wp2_with fail
    go_ret
    exact ⟨_, rfl, rfl⟩
/-- The noises agree, but for ceilings that there aren't. -/
theorem rNoise_any (seed line n : Int) (hn : n ≤ 39) (w : World) : Calls Try.prog 59 #[.int .u32 seed, .int .i64 line, .int .i64 n] w fun e w' => ∃ r : Int, e = .returned (.int .i64 r) ∧ (n ≤ 26 → r = nz seed line n) ∧ w' = w := by
  by_cases h : n ≤ 26
  · refine (rNoise_calls seed line n h w).mono ?_
    rintro e w' ⟨rfl, rfl⟩
    exact ⟨_, rfl, fun _ => rfl, rfl⟩
  · obtain ⟨m, rfl⟩ : ∃ m : Nat, n = (m : Int) + 2 := ⟨(n - 2).toNat, by omega⟩
    refine (rNoise_big seed line m (by omega) (by omega) w).mono ?_
    rintro e w' ⟨r, rfl, rfl⟩
    exact ⟨r, rfl, fun h2 => absurd h2 h, rfl⟩
theorem nought_open : Nought (openS [], ones) := ⟨rfl, by decide⟩
theorem Rd.up0 {W : World} {L : List Ast} {k : IntKind} {u : Value} {ys : List Int} (h : Rd W [] k u ys) : Rd W L k u ys := fun w H => h w ⟨H.1, trivial⟩
/-- What is right so far. -/
def okA (c s : List Int) (k : Nat) : Bool := Erg.rightB c && Erg.rightB s && difs c s k
theorem okA_zero (c s : List Int) : okA c s 0 = (Erg.rightB c && Erg.rightB s) := by unfold okA difs; simp
theorem okA_succ (c s : List Int) (k : Nat) : okA c s (k + 1) = (okA c s k && difB c s k) := by unfold okA; rw [difs_succ, Bool.and_assoc, Bool.and_assoc, Bool.and_assoc]
theorem okA_all (c s : List Int) : okA c s c.length = qrB c s := by
  unfold okA qrB difs
  cases h : Erg.rightB c with
  | false => rfl
  | true => rw [(Erg.right_rt h).len]
theorem okA_rt {c s : List Int} {k : Nat} (h : okA c s k = true) : Erg.Rt c ∧ Erg.Rt s := by
  unfold okA at h
  rw [Bool.and_eq_true, Bool.and_eq_true] at h
  exact ⟨Erg.right_rt h.1.1, Erg.right_rt h.1.2⟩
/-- The answers' numbers. -/
def cd (b : Bool) : Int := if b then 0 else 1
attribute [local irreducible] gRun openS qrun Enc.fresh nz qrB
theorem PutA {W w : World} {L : List Ast} {e : Nat} {s : Enc.St} (H : Hp W w (encA e s :: L)) (ok : s.Ready) (small : s.k ≤ 500000000) {A : Option Addr} {ca : Nat} (hca : 512 ≤ ca) {uc us : Value} {x c st : List Int}
    (rl : Rd W L .i32 (.slice A 512 ca) x) (rc : Rd W [] .i64 uc c) (rs : Rd W [] .i64 us st) (h1 : c.length ≤ 1000000000) (h2 : st.length ≤ 1000000000) (xl : x.length = 512) (xb : ∀ y ∈ x, -2147483648 ≤ y ∧ y < 2147483648) :
    Calls Try.prog 57 #[.pointer (some ⟨e, 0, none⟩), .slice A 512 ca, uc, us] w fun en w' => en = .returned (.int .i64 (cd (qrB c st))) ∧ Hp W w' L := by
  cases hq : qrB c st with
  | true =>
    refine (Put_h H ok small hca rl (Rd.up0 rc) (Rd.up0 rs) (qrB_plan hq) xl xb).mono ?_
    rintro en w' ⟨rfl, h⟩
    exact ⟨rfl, h.drop⟩
  | false =>
    refine (Put_bad ⟨e, 0, none⟩ A ca (rc w ⟨H.1, trivial⟩) (rs w ⟨H.1, trivial⟩) h1 h2 hq).mono ?_
    rintro en w' ⟨rfl, n, rfl⟩
    exact ⟨rfl, H.drop.drewN n⟩
theorem GetA {W w : World} {L : List Ast} {d : Nat} (H : Hp W w (pdecA d (openS []) :: L)) {uc us : Value} {c st : List Int}
    (rc : Rd W [] .i64 uc c) (rs : Rd W [] .i64 us st) (h1 : c.length ≤ 1000000000) (h2 : st.length ≤ 1000000000) :
    Calls Try.prog 54 #[.pointer (some ⟨d, 0, none⟩), uc, us, .int .u32 1] w fun en w' => ∃ V, en = .returned (.tuple #[V, .int .i64 (cd (qrB c st))]) ∧ Hp W w' L := by
  have BYN : Byt [] := ⟨fun x hx => (by cases hx), by decide⟩
  have Y0 := open_ready [] BYN
  have Z0 := Erg.openS_n []
  cases hq : qrB c st with
  | true =>
    have PL := qrB_plan hq
    obtain ⟨vs, Q, hvs, _⟩ := nought_gRun (seed := 1) PL (dfine0 Y0) (nought_open) 512 (by omega)
    have GG := Get_h H Y0 (by rw [Z0]; decide) 1 (Rd.up0 rc) (Rd.up0 rs) PL
    rw [hvs] at GG
    refine GG.mono ?_
    rintro e6 w6 (⟨vs2, P6, g6, k6, hh, rfl, h6⟩ | ⟨hh, _⟩)
    · exact ⟨_, rfl, h6.drop.drop⟩
    · cases hh
  | false =>
    refine (Get_bad ⟨d, 0, none⟩ (rc w ⟨H.1, trivial⟩) (rs w ⟨H.1, trivial⟩) h1 h2 hq).mono ?_
    rintro en w' ⟨rfl, n, rfl⟩
    exact ⟨_, rfl, H.drop.drewN n⟩
theorem HeardA {W w : World} {L : List Ast} (H : Hp W w L) {A : Option Addr} {ca : Nat} {uc us : Value} {x c st : List Int}
    (rl : Rd W L .i32 (.slice A 512 ca) x) (rc : Rd W [] .i64 uc c) (rs : Rd W [] .i64 us st) (h1 : c.length ≤ 1000000000) (h2 : st.length ≤ 1000000000) (xl : x.length = 512) (xb : ∀ y ∈ x, -2147483648 ≤ y ∧ y < 2147483648) :
    Calls Try.prog 51 #[.slice A 512 ca, uc, us, .int .u32 1] w fun en w' => ∃ V, en = .returned (.tuple #[V, .int .i64 (cd (qrB c st))]) ∧ Hp W w' L := by
  cases hq : qrB c st with
  | true =>
    refine (Heard_h H 1 rl (Rd.up0 rc) (Rd.up0 rs) (qrB_plan hq) xl xb).mono ?_
    rintro e7 w7 ⟨gh, kh, rfl, h7⟩
    exact ⟨_, rfl, h7.drop⟩
  | false =>
    refine (Heard_bad A ca (rc w ⟨H.1, trivial⟩) (rs w ⟨H.1, trivial⟩) h1 h2 hq).mono ?_
    rintro en w' ⟨rfl, n, rfl⟩
    exact ⟨_, rfl, H.drewN n⟩
end Go.Proofs.Ytlbjoflmfboeeaa.Qnt

/-
  Law 12: QuantArgs; no condition.
-/
set_option linter.unusedVariables false
set_option linter.unusedSimpArgs false
namespace Go.Proofs.Ytlbjoflmfboeeaa.Qnt
open Go.RowKit Go.Proofs.Ytlbjoflmfboeeaa Go.Proofs.YtlbjoflmfboeeaaW.PrintWords Go.Proofs.YtlbjoflmfboeeaaW.PrintLast Go.Proofs.YtlbjoflmfboeeaaW.PrintMore Go.Proofs.Ytlbjoflmfboeeaa.Deco Go.Proofs.Ytlbjoflmfboeeaa.Ceil

attribute [local irreducible] gRun openS qrun Enc.fresh nz qrB
set_option maxHeartbeats 4000000 in
set_option maxRecDepth 100000 in
theorem args_law (a0 : Option Addr) (len0 cap0 : Nat) (z0 : List Int) (a1 : Option Addr) (len1 cap1 : Nat) (z1 : List Int) (line : Int) (W : World) (h0 : IsRow .i64 W a0 len0 cap0 z0) (y0 : len0 * 8 ≤ 140737488351232) (h1 : IsRow .i64 W a1 len1 cap1 z1) (y1 : len1 * 8 ≤ 140737488351232) (wf2 : (Lit.int .i64 line).wf = true) :
    Calls Try.prog 14 #[.slice a0 len0 cap0, .slice a1 len1 cap1, .int .i64 line] W fun e w' => e = .returned (.bool true) ∧ Below W.heap.size W w' := by
  by_cases hs : 60 < len0 ∨ 60 < len1
  · by_cases hs1 : 60 < len0
    · go_enter Try.func14, Try.ntmps14
      go_wp2_with fail
      refine (lives_h (Hp.nil W)).mono ?_
      rintro e1 w1 ⟨rfl, h1⟩
      have H1 := Lib.hid h1
      clear h1
      go_wp2_with fail
      refine (lives_h H1.out).mono ?_
      rintro e2 w2 ⟨rfl, h2⟩
      have H2 := Lib.hid h2
      clear h2
      go_wp2_with fail
      go_ret
      exact ⟨rfl, H2.out.b⟩
    · have hs2 : 60 < len1 := by omega
      clear hs
      go_enter Try.func14, Try.ntmps14
      go_wp2_with fail
      refine (lives_h (Hp.nil W)).mono ?_
      rintro e1 w1 ⟨rfl, h1⟩
      have H1 := Lib.hid h1
      clear h1
      go_wp2_with fail
      refine (lives_h H1.out).mono ?_
      rintro e2 w2 ⟨rfl, h2⟩
      have H2 := Lib.hid h2
      clear h2
      go_wp2_with fail
      go_ret
      exact ⟨rfl, H2.out.b⟩
  have hs1 : len0 ≤ 60 := by omega
  have hs2 : len1 ≤ 60 := by omega
  clear hs
  have SC := Lib.hid (Rd.arg (L := []) h0.src)
  have SS := Lib.hid (Rd.arg (L := []) h1.src)
  have WS := Ceil.wf_i64 wf2
  have L0 := h0.take_len
  have L1 := h1.take_len
  clear h0 h1 y0 y1 wf2
  generalize z0.take len0 = c at *
  generalize z1.take len1 = st at *
  subst L0 L1
  have k1 : decide ((60 : Int) < (c.length : Int)) = false := decide_eq_false (by omega)
  have k2 : decide ((60 : Int) < (st.length : Int)) = false := decide_eq_false (by omega)
  have hm : ∀ w : World, (Instr.makeSlice 54 (.int .i64 21) (.int .i64 21)).run Try.prog w = .ok (.slice (some ⟨w.heap.size, 0, none⟩) 21 21) (w.alloc (.cells (madeCells #[.int .i64 0] 21) 3)) := fun w => run_make_row' 54 3 (.int .i64 0) 8 Try.underlying54 (by kernel_rfl) rfl .i64 .i64 21 (by omega) (by omega) w
  have hm2 : ∀ w : World, (Instr.makeSlice 86 (.int .i64 512) (.int .i64 512)).run Try.prog w = .ok (.slice (some ⟨w.heap.size, 0, none⟩) 512 512) (w.alloc (.cells (madeCells #[.int .i32 0] 512) 21)) := fun w => run_make_row' 86 21 (.int .i32 0) 4 Try.underlying86 (by kernel_rfl) rfl .i64 .i64 512 (by omega) (by omega) w
  have OA := Lib.hid (okA_zero c st)
  have RR1 := Lib.hid (fun w (H : Hp W w []) => Erg.RRight_calls (SC.out w H) (by omega))
  have RR2 := Lib.hid (fun w (H : Hp W w []) => Erg.RRight_calls (SS.out w H) (by omega))
  go_enter Try.func14, Try.ntmps14
  go_wp2_with fail
  refine (lives_h (Hp.nil W)).mono ?_
  rintro e1 w1 ⟨rfl, h1⟩
  have H1 := Lib.hid h1
  clear h1
  go_upto_region 3 with fail
  go_cut [7] (fun v wc => v = .bool (okA c st 0) ∧ wc = w1)
  case first =>
    go_wp2_with fail
    refine (RR1.out _ H1.out).mono ?_
    rintro e2 w2 ⟨rfl, he⟩
    subst w2
    cases hr1 : Erg.rightB c with
    | false =>
      rw [hr1] at OA
      go_wp2_with fail
      go_meet
      exact ⟨by rw [OA.out]; rfl, rfl⟩
    | true =>
      rw [hr1] at OA
      go_wp2_with fail
      refine (RR2.out _ H1.out).mono ?_
      rintro e2 w2 ⟨rfl, he⟩
      subst w2
      go_wp2_with fail
      go_meet
      exact ⟨by rw [OA.out]; rfl, rfl⟩
  case rest =>
  obtain ⟨rfl, rfl⟩ := hcut
  clear RR1 RR2 OA
  go_wp2_with fail
  go_loopw [7, 43] (fun o u wr => ∃ k : Nat, k ≤ c.length ∧ u = .int .i64 (k : Int) ∧ o = .bool (okA c st k) ∧ Hid (Hp W wr [])) (fun _ u _ => c.length - (intOf u).toNat)
  case atStart => exact ⟨0, by omega, rfl, rfl, H1⟩
  case round =>
    clear H1
    obtain ⟨k, hk, rfl, rfl, H⟩ := hrel
    have OS := Lib.hid (okA_succ c st k)
    by_cases hlt : k < c.length
    · have ik : (k : Int) < (c.length : Int) := by omega
      cases hb : okA c st k with
      | false =>
        rw [hb, Bool.false_and] at OS
        go_wp2_with fail
        go_quiet (fail)
        go_wp2_with fail
        go_roundw
        case rel => exact ⟨k + 1, by omega, by push_cast; rfl, by rw [OS.out], Lib.hid (H.out.drewN nq)⟩
        case measure =>
          show c.length - ((k : Int) + 1).toNat < c.length - (k : Int).toNat
          omega
      | true =>
        rw [hb, Bool.true_and] at OS
        have RT := okA_rt hb
        have lc := RT.1.len
        have ls := RT.2.len
        have hk2 : k < st.length := by omega
        obtain ⟨ad, ha, d1⟩ := (SC.out wr H.out).cell (j := k) hlt
        obtain ⟨ad2, ha2, d2⟩ := (SS.out wr H.out).cell (j := k) hk2
        subst ha ha2
        have b1 := RT.1.bd k hlt
        have b2 := RT.2.bd k hk2
        have DV : Hid (difB c st k = decide (c[k] - st[k] < 13)) := Lib.hid (by unfold difB; rw [Dig.getD_get c k hlt, Dig.getD_get st k hk2])
        rw [DV.out] at OS
        have ik2 : (k : Int) < (st.length : Int) := by omega
        generalize c[k] = x at *
        generalize st[k] = y at *
        have w1 : IntKind.i64.wrap (x - y) = x - y := wrapI64 (by omega) (by omega)
        clear RT DV hb lc ls
        by_cases h12 : x - y ≤ 12
        · rw [decide_eq_true (show x - y < 13 by omega)] at OS
          have hd : decide (x - y ≤ 12) = true := decide_eq_true h12
          go_wp2_with fail
          go_quiet (fail)
          go_wp2_with fail
          go_roundw
          case rel => exact ⟨k + 1, by omega, by push_cast; rfl, by rw [OS.out], Lib.hid (H.out.drewN nq)⟩
          case measure =>
            show c.length - ((k : Int) + 1).toNat < c.length - (k : Int).toNat
            omega
        · rw [decide_eq_false (show ¬ x - y < 13 by omega)] at OS
          have hd : decide (x - y ≤ 12) = false := decide_eq_false h12
          go_wp2_with fail
          go_quiet (fail)
          go_wp2_with fail
          go_roundw
          case rel => exact ⟨k + 1, by omega, by push_cast; rfl, by rw [OS.out], Lib.hid (H.out.drewN nq)⟩
          case measure =>
            show c.length - ((k : Int) + 1).toNat < c.length - (k : Int).toNat
            omega
    · obtain rfl : k = c.length := by omega
      have HQ := Lib.hid (okA_all c st)
      rw [HQ.out]
      obtain ⟨nn, hnn⟩ : ∃ nn, Int.tmod line 40 = nn := ⟨_, rfl⟩
      have nb := tmod_lt line 40 (by decide)
      rw [hnn] at nb
      have w40 : IntKind.i64.wrap nn = nn := wrapI64 (by omega) (by omega)
      have H0 : Hid (Hp W (wr.alloc (.cells (madeCells #[.int .i32 0] 512) 21)) [rowA 21 .i32 wr.heap.size 512 (List.replicate 512 0)]) := Lib.hid (H.out.new_row 21 .i32 512 0 (by decide))
      have xl : (List.replicate 512 (0 : Int)).length = 512 := List.length_replicate
      have xb : Hid (∀ y ∈ List.replicate 512 (0 : Int), -2147483648 ≤ y ∧ y < 2147483648) := Lib.hid (fun y hy => by have := List.eq_of_mem_replicate hy; omega)
      have K0 : Enc.fresh.k = 0 := by unfold Enc.fresh; rfl
      clear H OS hk hlt HQ
      obtain ⟨q, hq⟩ : ∃ q, qrB c st = q := ⟨_, rfl⟩
      rw [hq]
      have HQ := Lib.hid hq
      clear hq
      go_wp2_with fail
      generalize wr.heap.size = GL at *
      generalize wr.alloc (.cells (madeCells #[.int .i32 0] 512) 21) = w2 at *
      generalize List.replicate 512 (0 : Int) = x0 at *
      refine (Enc.New_h H0.out).mono ?_
      rintro e2 w3 ⟨en, rfl, h2⟩
      have H2 := Lib.hid h2
      clear h2 H0
      go_wp2_with fail
      refine (PutA H2.out Enc.fresh_rdy (by omega) (Nat.le_refl 512) (Rd.rown xl) SC.out SS.out (by omega) (by omega) xl xb.out).mono ?_
      rintro e4 w4 ⟨rfl, h4⟩
      rw [HQ.out]
      have H4 := Lib.hid h4
      clear h4 H2
      have BYN : Hid (Byt []) := Lib.hid ⟨fun x hx => (by cases hx), by decide⟩
      go_wp2_with fail
      refine (New_h H4.out (Src.of_sl (Sl.nil w4 5 .u8)) BYN.out).mono ?_
      rintro e5 w5 ⟨d, rfl, h5⟩
      have H5 := Lib.hid h5
      clear h5 H4 BYN
      go_wp2_with fail
      refine (GetA H5.out SC.out SS.out (by omega) (by omega)).mono ?_
      rintro e6 w6 ⟨V1, rfl, h6⟩
      rw [HQ.out]
      have H6 := Lib.hid h6
      clear h6 H5
      go_wp2_with fail
      refine (HeardA H6.out (Rd.rown xl) SC.out SS.out (by omega) (by omega) xl xb.out).mono ?_
      rintro e7 w7 ⟨V2, rfl, h7⟩
      rw [HQ.out]
      have H7 : Hid (Hp W w7 []) := Lib.hid ⟨h7.b, trivial⟩
      clear h7 H6
      have BZ : Hid (Below W.heap.size W (w7.alloc (.cells (madeCells #[.int .i64 0] 21) 3))) := Lib.hid (H7.out.b.alloc H7.out.size _)
      go_wp2_with fail
      generalize w7.heap.size = GZ at *
      generalize w7.alloc (.cells (madeCells #[.int .i64 0] 21) 3) = w8 at *
      refine (Get_nil _ _ _ _).mono ?_
      rintro e9 w9 ⟨rfl, he⟩
      subst w9
      go_wp2_with fail
      refine (Heard_few _ _ _ (by decide) _ _ _ _).mono ?_
      rintro e10 w10 ⟨rfl, he⟩
      subst w10
      go_wp2_with fail
      have RN := Lib.hid (fun w => rNoise_any (line % 4294967296) line nn (by omega) w)
      have NB := nz_bd (line % 4294967296) line nn
      refine (Noise_calls _ _ _ _).mono ?_
      rintro e11 w11 ⟨rfl, q11, rfl⟩
      generalize nz (line % 4294967296) line nn = z at *
      have wz : IntKind.i64.wrap z = z := wrapI64 (by omega) (by omega)
      go_wp2_with fail
      refine (RN.out _).mono ?_
      rintro e12 w12 ⟨r, rfl, hr, he⟩
      subst w12
      clear RN
      have BY : Hid (Below W.heap.size W (w8.drewN q11)) := Lib.hid (pw_below_drewN BZ.out q11)
      clear BZ H7
      obtain ⟨zb, hzb⟩ : ∃ zb, (z == r) = zb := ⟨_, rfl⟩
      have hor : zb = true ∨ 26 < nn := by
        by_cases h26 : nn ≤ 26
        · left
          rw [← hzb, hr h26]
          exact beq_self_eq_true z
        · right
          omega
      clear hr
      go_upto_region 18 with fail
      cases q
      focus (
        rw [show cd false = 1 from rfl]
        )
      rotate_left
      focus (
        rw [show cd true = 0 from rfl]
        )
      rotate_left
      all_goals (
        refine wp_region_noPanic ?_
        refine wp_region_any (by kernel_rfl) ?_
        try (change wpAny _ _ _ _ _ _ _ (World.drew _))
        refine wpAny_take (i := 0) (v := ?_) rfl (by kernel_rfl) (by kernel_rfl) (by kernel_rfl) (fun _ _ _ h => h) (Or.inl ⟨by kernel_rfl, ?_⟩) ?_
        rotate_left
        · intro w
          first | (go_simp; done) | (go_simp; with_reducible rfl)
        try simp only [Act.put, List.getElem_toArray, List.getElem_cons_zero, List.getElem_cons_succ, List.setIfInBounds_toArray, List.set_cons_zero, List.set_cons_succ]
        refine wpAny_take (i := 1) (v := ?_) rfl (by kernel_rfl) (by kernel_rfl) (by kernel_rfl) (fun _ _ _ h => h) (Or.inl ⟨by kernel_rfl, ?_⟩) ?_
        rotate_left
        · intro w
          first | (go_simp; done) | (go_simp; with_reducible rfl)
        try simp only [Act.put, List.getElem_toArray, List.getElem_cons_zero, List.getElem_cons_succ, List.setIfInBounds_toArray, List.set_cons_zero, List.set_cons_succ]
        refine wpAny_take (i := 2) (v := ?_) rfl (by kernel_rfl) (by kernel_rfl) (by kernel_rfl) (fun _ _ _ h => h) (Or.inl ⟨by kernel_rfl, ?_⟩) ?_
        rotate_left
        · intro w
          first | (go_simp; done) | (go_simp; with_reducible rfl)
        try simp only [Act.put, List.getElem_toArray, List.getElem_cons_zero, List.getElem_cons_succ, List.setIfInBounds_toArray, List.set_cons_zero, List.set_cons_succ]
        refine wpAny_take (i := 3) (v := ?_) rfl (by kernel_rfl) (by kernel_rfl) (by kernel_rfl) (fun _ _ _ h => h) (Or.inl ⟨by kernel_rfl, ?_⟩) ?_
        rotate_left
        · intro w
          first | (go_simp; done) | (go_simp; with_reducible rfl)
        try simp only [Act.put, List.getElem_toArray, List.getElem_cons_zero, List.getElem_cons_succ, List.setIfInBounds_toArray, List.set_cons_zero, List.set_cons_succ]
        refine wpAny_take (i := 4) (v := ?_) rfl (by kernel_rfl) (by kernel_rfl) (by kernel_rfl) (fun _ _ _ h => h) (Or.inl ⟨by kernel_rfl, ?_⟩) ?_
        rotate_left
        · intro w
          first | (go_simp; done) | (go_simp; with_reducible rfl)
        try simp only [Act.put, List.getElem_toArray, List.getElem_cons_zero, List.getElem_cons_succ, List.setIfInBounds_toArray, List.set_cons_zero, List.set_cons_succ]
        refine wpAny_take (i := 5) (v := ?_) rfl (by kernel_rfl) (by kernel_rfl) (by kernel_rfl) (fun _ _ _ h => h) (Or.inl ⟨by kernel_rfl, ?_⟩) ?_
        rotate_left
        · intro w
          first | (go_simp; done) | (go_simp; with_reducible rfl)
        try simp only [Act.put, List.getElem_toArray, List.getElem_cons_zero, List.getElem_cons_succ, List.setIfInBounds_toArray, List.set_cons_zero, List.set_cons_succ]
        refine wpAny_take (i := 6) (v := ?_) rfl (by kernel_rfl) (by kernel_rfl) (by kernel_rfl) (fun _ _ _ h => h) (Or.inl ⟨by kernel_rfl, ?_⟩) ?_
        rotate_left
        · intro w
          first | (go_simp; done) | (go_simp; with_reducible rfl)
        try simp only [Act.put, List.getElem_toArray, List.getElem_cons_zero, List.getElem_cons_succ, List.setIfInBounds_toArray, List.set_cons_zero, List.set_cons_succ]
        refine wpAny_take (i := 7) (v := ?_) rfl (by kernel_rfl) (by kernel_rfl) (by kernel_rfl) (fun _ _ _ h => h) (Or.inl ⟨by kernel_rfl, ?_⟩) ?_
        rotate_left
        · intro w
          first | (go_simp; done) | (go_simp; with_reducible rfl)
        try simp only [Act.put, List.getElem_toArray, List.getElem_cons_zero, List.getElem_cons_succ, List.setIfInBounds_toArray, List.set_cons_zero, List.set_cons_succ]
        refine wpAny_take (i := 8) (v := ?_) rfl (by kernel_rfl) (by kernel_rfl) (by kernel_rfl) (fun _ _ _ h => h) (Or.inl ⟨by kernel_rfl, ?_⟩) ?_
        rotate_left
        · intro w
          first | (go_simp; done) | (go_simp; with_reducible rfl)
        try simp only [Act.put, List.getElem_toArray, List.getElem_cons_zero, List.getElem_cons_succ, List.setIfInBounds_toArray, List.set_cons_zero, List.set_cons_succ]
        refine wpAny_take (i := 9) (v := ?_) rfl (by kernel_rfl) (by kernel_rfl) (by kernel_rfl) (fun _ _ _ h => h) (Or.inl ⟨by kernel_rfl, ?_⟩) ?_
        rotate_left
        · intro w
          first | (go_simp; done) | (go_simp; with_reducible rfl)
        try simp only [Act.put, List.getElem_toArray, List.getElem_cons_zero, List.getElem_cons_succ, List.setIfInBounds_toArray, List.set_cons_zero, List.set_cons_succ]
        refine wpAny_take (i := 10) (v := ?_) rfl (by kernel_rfl) (by kernel_rfl) (by kernel_rfl) (fun _ _ _ h => h) (Or.inl ⟨by kernel_rfl, ?_⟩) ?_
        rotate_left
        · intro w
          first | (go_simp; done) | (go_simp; with_reducible rfl)
        try simp only [Act.put, List.getElem_toArray, List.getElem_cons_zero, List.getElem_cons_succ, List.setIfInBounds_toArray, List.set_cons_zero, List.set_cons_succ]
        refine wpAny_take (i := 11) (v := ?_) rfl (by kernel_rfl) (by kernel_rfl) (by kernel_rfl) (fun _ _ _ h => h) (Or.inl ⟨by kernel_rfl, ?_⟩) ?_
        rotate_left
        · intro w
          first | (go_simp; done) | (go_simp; with_reducible rfl)
        try simp only [Act.put, List.getElem_toArray, List.getElem_cons_zero, List.getElem_cons_succ, List.setIfInBounds_toArray, List.set_cons_zero, List.set_cons_succ]
        refine wpAny_take (i := 12) (v := ?_) rfl (by kernel_rfl) (by kernel_rfl) (by kernel_rfl) (fun _ _ _ h => h) (Or.inl ⟨by kernel_rfl, ?_⟩) ?_
        rotate_left
        · intro w
          first | (go_simp; done) | (go_simp; with_reducible rfl)
        try simp only [Act.put, List.getElem_toArray, List.getElem_cons_zero, List.getElem_cons_succ, List.setIfInBounds_toArray, List.set_cons_zero, List.set_cons_succ]
        refine wpAny_take (i := 13) (v := ?_) rfl (by kernel_rfl) (by kernel_rfl) (by kernel_rfl) (fun _ _ _ h => h) (Or.inl ⟨by kernel_rfl, ?_⟩) ?_
        rotate_left
        · intro w
          first | (go_simp; done) | (go_simp; with_reducible rfl)
        try simp only [Act.put, List.getElem_toArray, List.getElem_cons_zero, List.getElem_cons_succ, List.setIfInBounds_toArray, List.set_cons_zero, List.set_cons_succ]
        refine wpAny_take (i := 14) (v := ?_) rfl (by kernel_rfl) (by kernel_rfl) (by kernel_rfl) (fun _ _ _ h => h) (Or.inl ⟨by kernel_rfl, ?_⟩) ?_
        rotate_left
        · intro w
          first | (go_simp; done) | (go_simp; with_reducible rfl)
        try simp only [Act.put, List.getElem_toArray, List.getElem_cons_zero, List.getElem_cons_succ, List.setIfInBounds_toArray, List.set_cons_zero, List.set_cons_succ]
        refine wpAny_take (i := 15) (v := ?_) rfl (by kernel_rfl) (by kernel_rfl) (by kernel_rfl) (fun _ _ _ h => h) (Or.inl ⟨by kernel_rfl, ?_⟩) ?_
        rotate_left
        · intro w
          first | (go_simp; done) | (go_simp; with_reducible rfl)
        try simp only [Act.put, List.getElem_toArray, List.getElem_cons_zero, List.getElem_cons_succ, List.setIfInBounds_toArray, List.set_cons_zero, List.set_cons_succ]
        refine wpAny_take (i := 16) (v := ?_) rfl (by kernel_rfl) (by kernel_rfl) (by kernel_rfl) (fun _ _ _ h => h) (Or.inl ⟨by kernel_rfl, ?_⟩) ?_
        rotate_left
        · intro w
          first | (go_simp; done) | (go_simp; with_reducible rfl)
        try simp only [Act.put, List.getElem_toArray, List.getElem_cons_zero, List.getElem_cons_succ, List.setIfInBounds_toArray, List.set_cons_zero, List.set_cons_succ]
        refine wpAny_take (i := 17) (v := ?_) rfl (by kernel_rfl) (by kernel_rfl) (by kernel_rfl) (fun _ _ _ h => h) (Or.inl ⟨by kernel_rfl, ?_⟩) ?_
        rotate_left
        · intro w
          first | (go_simp; done) | (go_simp; with_reducible rfl)
        try simp only [Act.put, List.getElem_toArray, List.getElem_cons_zero, List.getElem_cons_succ, List.setIfInBounds_toArray, List.set_cons_zero, List.set_cons_succ]
        refine wpAny_take (i := 18) (v := ?_) rfl (by kernel_rfl) (by kernel_rfl) (by kernel_rfl) (fun _ _ _ h => h) (Or.inl ⟨by kernel_rfl, ?_⟩) ?_
        rotate_left
        · intro w
          first | (go_simp; done) | (go_simp; with_reducible rfl)
        try simp only [Act.put, List.getElem_toArray, List.getElem_cons_zero, List.getElem_cons_succ, List.setIfInBounds_toArray, List.set_cons_zero, List.set_cons_succ]
        )
      focus (
        refine wpAny_take (i := 19) (v := ?_) rfl (by kernel_rfl) (by kernel_rfl) (by kernel_rfl) (fun _ _ _ h => h) (Or.inl ⟨by kernel_rfl, ?_⟩) ?_
        rotate_left
        · intro w
          first | (go_simp; done) | (go_simp; with_reducible rfl)
        try simp only [Act.put, List.getElem_toArray, List.getElem_cons_zero, List.getElem_cons_succ, List.setIfInBounds_toArray, List.set_cons_zero, List.set_cons_succ]
        refine wpAny_take (i := 20) (v := ?_) rfl (by kernel_rfl) (by kernel_rfl) (by kernel_rfl) (fun _ _ _ h => h) (Or.inl ⟨by kernel_rfl, ?_⟩) ?_
        rotate_left
        · intro w
          first | (go_simp; done) | (go_simp; with_reducible rfl)
        try simp only [Act.put, List.getElem_toArray, List.getElem_cons_zero, List.getElem_cons_succ, List.setIfInBounds_toArray, List.set_cons_zero, List.set_cons_succ]
        refine wpAny_take (i := 21) (v := ?_) rfl (by kernel_rfl) (by kernel_rfl) (by kernel_rfl) (fun _ _ _ h => h) (Or.inl ⟨by kernel_rfl, ?_⟩) ?_
        rotate_left
        · intro w
          first | (go_simp; done) | (go_simp; with_reducible rfl)
        try simp only [Act.put, List.getElem_toArray, List.getElem_cons_zero, List.getElem_cons_succ, List.setIfInBounds_toArray, List.set_cons_zero, List.set_cons_succ]
        refine wpAny_take (i := 22) (v := ?_) rfl (by kernel_rfl) (by kernel_rfl) (by kernel_rfl) (fun _ _ _ h => h) (Or.inl ⟨by kernel_rfl, ?_⟩) ?_
        rotate_left
        · intro w
          first | (go_simp; done) | (go_simp; with_reducible rfl)
        try simp only [Act.put, List.getElem_toArray, List.getElem_cons_zero, List.getElem_cons_succ, List.setIfInBounds_toArray, List.set_cons_zero, List.set_cons_succ]
        refine wpAny_take (i := 23) (v := ?_) rfl (by kernel_rfl) (by kernel_rfl) (by kernel_rfl) (fun _ _ _ h => h) (Or.inl ⟨by kernel_rfl, ?_⟩) ?_
        rotate_left
        · intro w
          first | (go_simp; done) | (go_simp; with_reducible rfl)
        try simp only [Act.put, List.getElem_toArray, List.getElem_cons_zero, List.getElem_cons_succ, List.setIfInBounds_toArray, List.set_cons_zero, List.set_cons_succ]
        refine wpAny_take (i := 24) (v := ?_) rfl (by kernel_rfl) (by kernel_rfl) (by kernel_rfl) (fun _ _ _ h => h) (Or.inl ⟨by kernel_rfl, ?_⟩) ?_
        rotate_left
        · intro w
          first | (go_simp; done) | (go_simp; with_reducible rfl)
        try simp only [Act.put, List.getElem_toArray, List.getElem_cons_zero, List.getElem_cons_succ, List.setIfInBounds_toArray, List.set_cons_zero, List.set_cons_succ]
        refine wpAny_take (i := 25) (v := ?_) rfl (by kernel_rfl) (by kernel_rfl) (by kernel_rfl) (fun _ _ _ h => h) (Or.inl ⟨by kernel_rfl, ?_⟩) ?_
        rotate_left
        · intro w
          first | (go_simp; done) | (go_simp; with_reducible rfl)
        try simp only [Act.put, List.getElem_toArray, List.getElem_cons_zero, List.getElem_cons_succ, List.setIfInBounds_toArray, List.set_cons_zero, List.set_cons_succ]
        refine wpAny_take (i := 26) (v := ?_) rfl (by kernel_rfl) (by kernel_rfl) (by kernel_rfl) (fun _ _ _ h => h) (Or.inl ⟨by kernel_rfl, ?_⟩) ?_
        rotate_left
        · intro w
          first | (go_simp; done) | (go_simp; with_reducible rfl)
        try simp only [Act.put, List.getElem_toArray, List.getElem_cons_zero, List.getElem_cons_succ, List.setIfInBounds_toArray, List.set_cons_zero, List.set_cons_succ]
        refine wpAny_take (i := 27) (v := ?_) rfl (by kernel_rfl) (by kernel_rfl) (by kernel_rfl) (fun _ _ _ h => h) (Or.inl ⟨by kernel_rfl, ?_⟩) ?_
        rotate_left
        · intro w
          first | (go_simp; done) | (go_simp; with_reducible rfl)
        try simp only [Act.put, List.getElem_toArray, List.getElem_cons_zero, List.getElem_cons_succ, List.setIfInBounds_toArray, List.set_cons_zero, List.set_cons_succ]
        refine wpAny_take (i := 28) (v := ?_) rfl (by kernel_rfl) (by kernel_rfl) (by kernel_rfl) (fun _ _ _ h => h) (Or.inl ⟨by kernel_rfl, ?_⟩) ?_
        rotate_left
        · intro w
          first | (go_simp; done) | (go_simp; with_reducible rfl)
        try simp only [Act.put, List.getElem_toArray, List.getElem_cons_zero, List.getElem_cons_succ, List.setIfInBounds_toArray, List.set_cons_zero, List.set_cons_succ]
        )
      rotate_left
      focus (
        refine wpAny_take (i := 19) (v := undef) rfl (by kernel_rfl) (by kernel_rfl) (by kernel_rfl) (fun _ _ _ h => h) (Or.inr ⟨by kernel_rfl, rfl⟩) ?_
        try simp only [Act.put, List.getElem_toArray, List.getElem_cons_zero, List.getElem_cons_succ, List.setIfInBounds_toArray, List.set_cons_zero, List.set_cons_succ]
        refine wpAny_take (i := 20) (v := undef) rfl (by kernel_rfl) (by kernel_rfl) (by kernel_rfl) (fun _ _ _ h => h) (Or.inr ⟨by kernel_rfl, rfl⟩) ?_
        try simp only [Act.put, List.getElem_toArray, List.getElem_cons_zero, List.getElem_cons_succ, List.setIfInBounds_toArray, List.set_cons_zero, List.set_cons_succ]
        refine wpAny_take (i := 21) (v := undef) rfl (by kernel_rfl) (by kernel_rfl) (by kernel_rfl) (fun _ _ _ h => h) (Or.inr ⟨by kernel_rfl, rfl⟩) ?_
        try simp only [Act.put, List.getElem_toArray, List.getElem_cons_zero, List.getElem_cons_succ, List.setIfInBounds_toArray, List.set_cons_zero, List.set_cons_succ]
        refine wpAny_take (i := 22) (v := undef) rfl (by kernel_rfl) (by kernel_rfl) (by kernel_rfl) (fun _ _ _ h => h) (Or.inr ⟨by kernel_rfl, rfl⟩) ?_
        try simp only [Act.put, List.getElem_toArray, List.getElem_cons_zero, List.getElem_cons_succ, List.setIfInBounds_toArray, List.set_cons_zero, List.set_cons_succ]
        refine wpAny_take (i := 23) (v := undef) rfl (by kernel_rfl) (by kernel_rfl) (by kernel_rfl) (fun _ _ _ h => h) (Or.inr ⟨by kernel_rfl, rfl⟩) ?_
        try simp only [Act.put, List.getElem_toArray, List.getElem_cons_zero, List.getElem_cons_succ, List.setIfInBounds_toArray, List.set_cons_zero, List.set_cons_succ]
        refine wpAny_take (i := 24) (v := undef) rfl (by kernel_rfl) (by kernel_rfl) (by kernel_rfl) (fun _ _ _ h => h) (Or.inr ⟨by kernel_rfl, rfl⟩) ?_
        try simp only [Act.put, List.getElem_toArray, List.getElem_cons_zero, List.getElem_cons_succ, List.setIfInBounds_toArray, List.set_cons_zero, List.set_cons_succ]
        refine wpAny_take (i := 25) (v := undef) rfl (by kernel_rfl) (by kernel_rfl) (by kernel_rfl) (fun _ _ _ h => h) (Or.inr ⟨by kernel_rfl, rfl⟩) ?_
        try simp only [Act.put, List.getElem_toArray, List.getElem_cons_zero, List.getElem_cons_succ, List.setIfInBounds_toArray, List.set_cons_zero, List.set_cons_succ]
        refine wpAny_take (i := 26) (v := undef) rfl (by kernel_rfl) (by kernel_rfl) (by kernel_rfl) (fun _ _ _ h => h) (Or.inr ⟨by kernel_rfl, rfl⟩) ?_
        try simp only [Act.put, List.getElem_toArray, List.getElem_cons_zero, List.getElem_cons_succ, List.setIfInBounds_toArray, List.set_cons_zero, List.set_cons_succ]
        refine wpAny_take (i := 27) (v := undef) rfl (by kernel_rfl) (by kernel_rfl) (by kernel_rfl) (fun _ _ _ h => h) (Or.inr ⟨by kernel_rfl, rfl⟩) ?_
        try simp only [Act.put, List.getElem_toArray, List.getElem_cons_zero, List.getElem_cons_succ, List.setIfInBounds_toArray, List.set_cons_zero, List.set_cons_succ]
        refine wpAny_take (i := 28) (v := undef) rfl (by kernel_rfl) (by kernel_rfl) (by kernel_rfl) (fun _ _ _ h => h) (Or.inr ⟨by kernel_rfl, rfl⟩) ?_
        try simp only [Act.put, List.getElem_toArray, List.getElem_cons_zero, List.getElem_cons_succ, List.setIfInBounds_toArray, List.set_cons_zero, List.set_cons_succ]
        )
      rotate_left
      all_goals (
        refine wpAny_take (i := 29) (v := ?_) rfl (by kernel_rfl) (by kernel_rfl) (by kernel_rfl) (fun _ _ _ h => h) (Or.inl ⟨by kernel_rfl, ?_⟩) ?_
        rotate_left
        · intro w
          first | (go_simp; done) | (go_simp; with_reducible rfl)
        try simp only [Act.put, List.getElem_toArray, List.getElem_cons_zero, List.getElem_cons_succ, List.setIfInBounds_toArray, List.set_cons_zero, List.set_cons_succ]
        refine wpAny_take (i := 30) (v := ?_) rfl (by kernel_rfl) (by kernel_rfl) (by kernel_rfl) (fun _ _ _ h => h) (Or.inl ⟨by kernel_rfl, ?_⟩) ?_
        rotate_left
        · intro w
          first | (go_simp; done) | (go_simp; with_reducible rfl)
        try simp only [Act.put, List.getElem_toArray, List.getElem_cons_zero, List.getElem_cons_succ, List.setIfInBounds_toArray, List.set_cons_zero, List.set_cons_succ]
        refine wpAny_take (i := 31) (v := ?_) rfl (by kernel_rfl) (by kernel_rfl) (by kernel_rfl) (fun _ _ _ h => h) (Or.inl ⟨by kernel_rfl, ?_⟩) ?_
        rotate_left
        · intro w
          first | (go_simp; done) | (go_simp; with_reducible rfl)
        try simp only [Act.put, List.getElem_toArray, List.getElem_cons_zero, List.getElem_cons_succ, List.setIfInBounds_toArray, List.set_cons_zero, List.set_cons_succ]
        refine wpAny_take (i := 32) (v := ?_) rfl (by kernel_rfl) (by kernel_rfl) (by kernel_rfl) (fun _ _ _ h => h) (Or.inl ⟨by kernel_rfl, ?_⟩) ?_
        rotate_left
        · intro w
          first | (go_simp; done) | (go_simp; with_reducible rfl)
        try simp only [Act.put, List.getElem_toArray, List.getElem_cons_zero, List.getElem_cons_succ, List.setIfInBounds_toArray, List.set_cons_zero, List.set_cons_succ]
        refine wpAny_take (i := 33) (v := ?_) rfl (by kernel_rfl) (by kernel_rfl) (by kernel_rfl) (fun _ _ _ h => h) (Or.inl ⟨by kernel_rfl, ?_⟩) ?_
        rotate_left
        · intro w
          first | (go_simp; done) | (go_simp; with_reducible rfl)
        try simp only [Act.put, List.getElem_toArray, List.getElem_cons_zero, List.getElem_cons_succ, List.setIfInBounds_toArray, List.set_cons_zero, List.set_cons_succ]
        refine wpAny_take (i := 34) (v := ?_) rfl (by kernel_rfl) (by kernel_rfl) (by kernel_rfl) (fun _ _ _ h => h) (Or.inl ⟨by kernel_rfl, ?_⟩) ?_
        rotate_left
        · intro w
          first | (go_simp; done) | (go_simp; with_reducible rfl)
        try simp only [Act.put, List.getElem_toArray, List.getElem_cons_zero, List.getElem_cons_succ, List.setIfInBounds_toArray, List.set_cons_zero, List.set_cons_succ]
        refine wpAny_ready (rs := [35]) (by kernel_rfl) (by simp) ?_
        refine AllReady.cons rfl (fun K hK => ?_) AllReady.nil
        go_simp
        go_at_call 57
        refine (Put_nil _ _ _ _).mono ?_
        rintro e13 w13 ⟨rfl, he⟩
        subst w13
        go_simp
        refine hK _ _ ?_
        clear hK K
        try simp only [Act.put, List.getElem_toArray, List.getElem_cons_zero, List.getElem_cons_succ, List.setIfInBounds_toArray, List.set_cons_zero, List.set_cons_succ]
        refine wpAny_take (i := 36) (v := ?_) rfl (by kernel_rfl) (by kernel_rfl) (by kernel_rfl) (fun _ _ _ h => h) (Or.inl ⟨by kernel_rfl, ?_⟩) ?_
        rotate_left
        · intro w
          first | (go_simp; done) | (go_simp; with_reducible rfl)
        try simp only [Act.put, List.getElem_toArray, List.getElem_cons_zero, List.getElem_cons_succ, List.setIfInBounds_toArray, List.set_cons_zero, List.set_cons_succ]
        refine wpAny_take (i := 37) (v := ?_) rfl (by kernel_rfl) (by kernel_rfl) (by kernel_rfl) (fun _ _ _ h => h) (Or.inl ⟨by kernel_rfl, ?_⟩) ?_
        rotate_left
        · intro w
          first | (go_simp; done) | (go_simp; with_reducible rfl)
        try simp only [Act.put, List.getElem_toArray, List.getElem_cons_zero, List.getElem_cons_succ, List.setIfInBounds_toArray, List.set_cons_zero, List.set_cons_succ]
        refine wpAny_take (i := 38) (v := ?_) rfl (by kernel_rfl) (by kernel_rfl) (by kernel_rfl) (fun _ _ _ h => h) (Or.inl ⟨by kernel_rfl, ?_⟩) ?_
        rotate_left
        · intro w
          first | (go_simp; done) | (go_simp; with_reducible rfl)
        try simp only [Act.put, List.getElem_toArray, List.getElem_cons_zero, List.getElem_cons_succ, List.setIfInBounds_toArray, List.set_cons_zero, List.set_cons_succ]
        refine wpAny_take (i := 40) (v := ?_) rfl (by kernel_rfl) (by kernel_rfl) (by kernel_rfl) (fun _ _ _ h => h) (Or.inl ⟨by kernel_rfl, ?_⟩) ?_
        rotate_left
        · intro w
          first | (go_simp; done) | (go_simp; with_reducible rfl)
        try simp only [Act.put, List.getElem_toArray, List.getElem_cons_zero, List.getElem_cons_succ, List.setIfInBounds_toArray, List.set_cons_zero, List.set_cons_succ]
        refine wpAny_take (i := 41) (v := ?_) rfl (by kernel_rfl) (by kernel_rfl) (by kernel_rfl) (fun _ _ _ h => h) (Or.inl ⟨by kernel_rfl, ?_⟩) ?_
        rotate_left
        · intro w
          first | (go_simp; done) | (go_simp; with_reducible rfl)
        try simp only [Act.put, List.getElem_toArray, List.getElem_cons_zero, List.getElem_cons_succ, List.setIfInBounds_toArray, List.set_cons_zero, List.set_cons_succ]
        refine wpAny_take (i := 42) (v := ?_) rfl (by kernel_rfl) (by kernel_rfl) (by kernel_rfl) (fun _ _ _ h => h) (Or.inl ⟨by kernel_rfl, ?_⟩) ?_
        rotate_left
        · intro w
          first | (go_simp; done) | (go_simp; with_reducible rfl)
        try simp only [Act.put, List.getElem_toArray, List.getElem_cons_zero, List.getElem_cons_succ, List.setIfInBounds_toArray, List.set_cons_zero, List.set_cons_succ]
        refine wpAny_take (i := 43) (v := ?_) rfl (by kernel_rfl) (by kernel_rfl) (by kernel_rfl) (fun _ _ _ h => h) (Or.inl ⟨by kernel_rfl, ?_⟩) ?_
        rotate_left
        · intro w
          first | (go_simp; done) | (go_simp; with_reducible rfl)
        try simp only [Act.put, List.getElem_toArray, List.getElem_cons_zero, List.getElem_cons_succ, List.setIfInBounds_toArray, List.set_cons_zero, List.set_cons_succ]
        refine wpAny_ready (rs := [39]) (by kernel_rfl) (by simp) ?_
        refine AllReady.cons rfl (fun K hK => ?_) AllReady.nil
        go_simp
        go_at_call 22
        refine (Enc.New_calls _).mono ?_
        rintro e14 w14 ⟨rfl, _, b14⟩
        have B14 := Lib.hid b14
        clear b14
        go_simp
        refine hK _ _ ?_
        clear hK K
        try simp only [Act.put, List.getElem_toArray, List.getElem_cons_zero, List.getElem_cons_succ, List.setIfInBounds_toArray, List.set_cons_zero, List.set_cons_succ]
        refine wpAny_ready (rs := [44]) (by kernel_rfl) (by simp) ?_
        refine AllReady.cons rfl (fun K hK => ?_) AllReady.nil
        go_simp
        go_at_call 57
        refine (Put_few _ _ _ _ (by decide) _ _ _).mono ?_
        rintro e15 w15 ⟨rfl, he⟩
        subst w15
        go_simp
        refine hK _ _ ?_
        clear hK K
        try simp only [Act.put, List.getElem_toArray, List.getElem_cons_zero, List.getElem_cons_succ, List.setIfInBounds_toArray, List.set_cons_zero, List.set_cons_succ]
        refine wpAny_take (i := 45) (v := ?_) rfl (by kernel_rfl) (by kernel_rfl) (by kernel_rfl) (fun _ _ _ h => h) (Or.inl ⟨by kernel_rfl, ?_⟩) ?_
        rotate_left
        · intro w
          first | (go_simp; done) | (go_simp; with_reducible rfl)
        try simp only [Act.put, List.getElem_toArray, List.getElem_cons_zero, List.getElem_cons_succ, List.setIfInBounds_toArray, List.set_cons_zero, List.set_cons_succ]
        refine wpAny_take (i := 46) (v := ?_) rfl (by kernel_rfl) (by kernel_rfl) (by kernel_rfl) (fun _ _ _ h => h) (Or.inl ⟨by kernel_rfl, ?_⟩) ?_
        rotate_left
        · intro w
          first | (go_simp; done) | (go_simp; with_reducible rfl)
        try simp only [Act.put, List.getElem_toArray, List.getElem_cons_zero, List.getElem_cons_succ, List.setIfInBounds_toArray, List.set_cons_zero, List.set_cons_succ]
        refine wpAny_take (i := 47) (v := ?_) rfl (by kernel_rfl) (by kernel_rfl) (by kernel_rfl) (fun _ _ _ h => h) (Or.inl ⟨by kernel_rfl, ?_⟩) ?_
        rotate_left
        · intro w
          first | (go_simp; done) | (go_simp; with_reducible rfl)
        try simp only [Act.put, List.getElem_toArray, List.getElem_cons_zero, List.getElem_cons_succ, List.setIfInBounds_toArray, List.set_cons_zero, List.set_cons_succ]
        refine wpAny_take (i := 48) (v := ?_) rfl (by kernel_rfl) (by kernel_rfl) (by kernel_rfl) (fun _ _ _ h => h) (Or.inl ⟨by kernel_rfl, ?_⟩) ?_
        rotate_left
        · intro w
          first | (go_simp; done) | (go_simp; with_reducible rfl)
        try simp only [Act.put, List.getElem_toArray, List.getElem_cons_zero, List.getElem_cons_succ, List.setIfInBounds_toArray, List.set_cons_zero, List.set_cons_succ]
        refine wpAny_take (i := 49) (v := ?_) rfl (by kernel_rfl) (by kernel_rfl) (by kernel_rfl) (fun _ _ _ h => h) (Or.inl ⟨by kernel_rfl, ?_⟩) ?_
        rotate_left
        · intro w
          first | (go_simp; done) | (go_simp; with_reducible rfl)
        try simp only [Act.put, List.getElem_toArray, List.getElem_cons_zero, List.getElem_cons_succ, List.setIfInBounds_toArray, List.set_cons_zero, List.set_cons_succ]
        refine wpAny_take (i := 50) (v := ?_) rfl (by kernel_rfl) (by kernel_rfl) (by kernel_rfl) (fun _ _ _ h => h) (Or.inl ⟨by kernel_rfl, ?_⟩) ?_
        rotate_left
        · intro w
          first | (go_simp; done) | (go_simp; with_reducible rfl)
        try simp only [Act.put, List.getElem_toArray, List.getElem_cons_zero, List.getElem_cons_succ, List.setIfInBounds_toArray, List.set_cons_zero, List.set_cons_succ]
        refine wpAny_take (i := 51) (v := ?_) rfl (by kernel_rfl) (by kernel_rfl) (by kernel_rfl) (fun _ _ _ h => h) (Or.inl ⟨by kernel_rfl, ?_⟩) ?_
        rotate_left
        · intro w
          first | (go_simp; done) | (go_simp; with_reducible rfl)
        try simp only [Act.put, List.getElem_toArray, List.getElem_cons_zero, List.getElem_cons_succ, List.setIfInBounds_toArray, List.set_cons_zero, List.set_cons_succ]
        refine wpAny_take (i := 52) (v := ?_) rfl (by kernel_rfl) (by kernel_rfl) (by kernel_rfl) (fun _ _ _ h => h) (Or.inl ⟨by kernel_rfl, ?_⟩) ?_
        rotate_left
        · intro w
          first | (go_simp; done) | (go_simp; with_reducible rfl)
        try simp only [Act.put, List.getElem_toArray, List.getElem_cons_zero, List.getElem_cons_succ, List.setIfInBounds_toArray, List.set_cons_zero, List.set_cons_succ]
        refine wpAny_take (i := 53) (v := ?_) rfl (by kernel_rfl) (by kernel_rfl) (by kernel_rfl) (fun _ _ _ h => h) (Or.inl ⟨by kernel_rfl, ?_⟩) ?_
        rotate_left
        · intro w
          first | (go_simp; done) | (go_simp; with_reducible rfl)
        try simp only [Act.put, List.getElem_toArray, List.getElem_cons_zero, List.getElem_cons_succ, List.setIfInBounds_toArray, List.set_cons_zero, List.set_cons_succ]
        refine wpAny_take (i := 54) (v := ?_) rfl (by kernel_rfl) (by kernel_rfl) (by kernel_rfl) (fun _ _ _ h => h) (Or.inl ⟨by kernel_rfl, ?_⟩) ?_
        rotate_left
        · intro w
          first | (go_simp; done) | (go_simp; with_reducible rfl)
        try simp only [Act.put, List.getElem_toArray, List.getElem_cons_zero, List.getElem_cons_succ, List.setIfInBounds_toArray, List.set_cons_zero, List.set_cons_succ]
        refine wpAny_take (i := 55) (v := ?_) rfl (by kernel_rfl) (by kernel_rfl) (by kernel_rfl) (fun _ _ _ h => h) (Or.inl ⟨by kernel_rfl, ?_⟩) ?_
        rotate_left
        · intro w
          first | (go_simp; done) | (go_simp; with_reducible rfl)
        try simp only [Act.put, List.getElem_toArray, List.getElem_cons_zero, List.getElem_cons_succ, List.setIfInBounds_toArray, List.set_cons_zero, List.set_cons_succ]
        refine wpAny_take (i := 56) (v := ?_) rfl (by kernel_rfl) (by kernel_rfl) (by kernel_rfl) (fun _ _ _ h => h) (Or.inl ⟨by kernel_rfl, ?_⟩) ?_
        rotate_left
        · intro w
          first | (go_simp; done) | (go_simp; with_reducible rfl)
        try simp only [Act.put, List.getElem_toArray, List.getElem_cons_zero, List.getElem_cons_succ, List.setIfInBounds_toArray, List.set_cons_zero, List.set_cons_succ]
        refine wpAny_take (i := 57) (v := ?_) rfl (by kernel_rfl) (by kernel_rfl) (by kernel_rfl) (fun _ _ _ h => h) (Or.inl ⟨by kernel_rfl, ?_⟩) ?_
        rotate_left
        · intro w
          first | (go_simp; done) | (go_simp; with_reducible rfl)
        try simp only [Act.put, List.getElem_toArray, List.getElem_cons_zero, List.getElem_cons_succ, List.setIfInBounds_toArray, List.set_cons_zero, List.set_cons_succ]
        )
      all_goals (cases zb)
      focus (
        have hn : 26 < nn := hor.resolve_left (by decide)
        have hd : decide (26 < nn) = true := decide_eq_true hn
        clear hor hzb
        refine wpAny_take (i := 58) (v := ?_) rfl (by kernel_rfl) (by kernel_rfl) (by kernel_rfl) (fun _ _ _ h => h) (Or.inl ⟨by kernel_rfl, ?_⟩) ?_
        rotate_left
        · intro w
          first | (go_simp; done) | (go_simp; with_reducible rfl)
        try simp only [Act.put, List.getElem_toArray, List.getElem_cons_zero, List.getElem_cons_succ, List.setIfInBounds_toArray, List.set_cons_zero, List.set_cons_succ]
        refine wpAny_take (i := 59) (v := ?_) rfl (by kernel_rfl) (by kernel_rfl) (by kernel_rfl) (fun _ _ _ h => h) (Or.inl ⟨by kernel_rfl, ?_⟩) ?_
        rotate_left
        · intro w
          first | (go_simp; done) | (go_simp; with_reducible rfl)
        try simp only [Act.put, List.getElem_toArray, List.getElem_cons_zero, List.getElem_cons_succ, List.setIfInBounds_toArray, List.set_cons_zero, List.set_cons_succ]
        )
      rotate_left
      focus (
        clear hor hzb
        refine wpAny_take (i := 58) (v := undef) rfl (by kernel_rfl) (by kernel_rfl) (by kernel_rfl) (fun _ _ _ h => h) (Or.inr ⟨by kernel_rfl, rfl⟩) ?_
        try simp only [Act.put, List.getElem_toArray, List.getElem_cons_zero, List.getElem_cons_succ, List.setIfInBounds_toArray, List.set_cons_zero, List.set_cons_succ]
        refine wpAny_take (i := 59) (v := undef) rfl (by kernel_rfl) (by kernel_rfl) (by kernel_rfl) (fun _ _ _ h => h) (Or.inr ⟨by kernel_rfl, rfl⟩) ?_
        try simp only [Act.put, List.getElem_toArray, List.getElem_cons_zero, List.getElem_cons_succ, List.setIfInBounds_toArray, List.set_cons_zero, List.set_cons_succ]
        )
      rotate_left
      focus (
        have hn : 26 < nn := hor.resolve_left (by decide)
        have hd : decide (26 < nn) = true := decide_eq_true hn
        clear hor hzb
        refine wpAny_take (i := 58) (v := ?_) rfl (by kernel_rfl) (by kernel_rfl) (by kernel_rfl) (fun _ _ _ h => h) (Or.inl ⟨by kernel_rfl, ?_⟩) ?_
        rotate_left
        · intro w
          first | (go_simp; done) | (go_simp; with_reducible rfl)
        try simp only [Act.put, List.getElem_toArray, List.getElem_cons_zero, List.getElem_cons_succ, List.setIfInBounds_toArray, List.set_cons_zero, List.set_cons_succ]
        refine wpAny_take (i := 59) (v := ?_) rfl (by kernel_rfl) (by kernel_rfl) (by kernel_rfl) (fun _ _ _ h => h) (Or.inl ⟨by kernel_rfl, ?_⟩) ?_
        rotate_left
        · intro w
          first | (go_simp; done) | (go_simp; with_reducible rfl)
        try simp only [Act.put, List.getElem_toArray, List.getElem_cons_zero, List.getElem_cons_succ, List.setIfInBounds_toArray, List.set_cons_zero, List.set_cons_succ]
        )
      rotate_left
      focus (
        clear hor hzb
        refine wpAny_take (i := 58) (v := undef) rfl (by kernel_rfl) (by kernel_rfl) (by kernel_rfl) (fun _ _ _ h => h) (Or.inr ⟨by kernel_rfl, rfl⟩) ?_
        try simp only [Act.put, List.getElem_toArray, List.getElem_cons_zero, List.getElem_cons_succ, List.setIfInBounds_toArray, List.set_cons_zero, List.set_cons_succ]
        refine wpAny_take (i := 59) (v := undef) rfl (by kernel_rfl) (by kernel_rfl) (by kernel_rfl) (fun _ _ _ h => h) (Or.inr ⟨by kernel_rfl, rfl⟩) ?_
        try simp only [Act.put, List.getElem_toArray, List.getElem_cons_zero, List.getElem_cons_succ, List.setIfInBounds_toArray, List.set_cons_zero, List.set_cons_succ]
        )
      rotate_left
      all_goals (
        refine wpAny_take (i := 60) (v := ?_) rfl (by kernel_rfl) (by kernel_rfl) (by kernel_rfl) (fun _ _ _ h => h) (Or.inl ⟨by kernel_rfl, ?_⟩) ?_
        rotate_left
        · intro w
          first | (go_simp; done) | (go_simp; with_reducible rfl)
        try simp only [Act.put, List.getElem_toArray, List.getElem_cons_zero, List.getElem_cons_succ, List.setIfInBounds_toArray, List.set_cons_zero, List.set_cons_succ]
        refine wpAny_take (i := 61) (v := ?_) rfl (by kernel_rfl) (by kernel_rfl) (by kernel_rfl) (fun _ _ _ h => h) (Or.inl ⟨by kernel_rfl, ?_⟩) ?_
        rotate_left
        · intro w
          first | (go_simp; done) | (go_simp; with_reducible rfl)
        try simp only [Act.put, List.getElem_toArray, List.getElem_cons_zero, List.getElem_cons_succ, List.setIfInBounds_toArray, List.set_cons_zero, List.set_cons_succ]
        refine wpAny_take (i := 62) (v := ?_) rfl (by kernel_rfl) (by kernel_rfl) (by kernel_rfl) (fun _ _ _ h => h) (Or.inl ⟨by kernel_rfl, ?_⟩) ?_
        rotate_left
        · intro w
          first | (go_simp; done) | (go_simp; with_reducible rfl)
        try simp only [Act.put, List.getElem_toArray, List.getElem_cons_zero, List.getElem_cons_succ, List.setIfInBounds_toArray, List.set_cons_zero, List.set_cons_succ]
        refine wpAny_done (by kernel_rfl) ?_ _
        refine NoPanic.normal ?_
        go_wp2_with fail
        go_ret
        exact ⟨rfl, ((pw_below_drewN BY.out 1).trans (B14.out.mono (pw_below_drewN BY.out 1).size))⟩
        )
end Go.Proofs.Ytlbjoflmfboeeaa.Qnt
