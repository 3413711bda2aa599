/- Texts of this session, merged. -/
import Derived.Test.YtlbjoflmfboeeaaMqp3
import Derived.Test.YtlbjoflmfboeeaaRows
/-
  Law 12's tools: fill, same, plan, lives; no condition but those told.
-/
set_option linter.unusedVariables false
set_option linter.unusedSimpArgs false
namespace Go.Proofs.Ytlbjoflmfboeeaa.Qnt
open Go.RowKit Go.Proofs.Ytlbjoflmfboeeaa Go.Proofs.YtlbjoflmfboeeaaW.PrintWords Go.Proofs.YtlbjoflmfboeeaaW.PrintLast Go.Proofs.YtlbjoflmfboeeaaW.PrintMore Go.Proofs.Ytlbjoflmfboeeaa.Deco Go.Proofs.Ytlbjoflmfboeeaa.Ceil

theorem C_of_src {w : World} {k : IntKind} {A : Option Addr} {n c : Nat} {ys : List Int} (h : Src w k (.slice A n c) ys) (hl : n ≤ 9223372036854775807) : Kd.C (Kd.int k) w A ys.length ys := by
  obtain ⟨A', c', e, hc⟩ := h
  injection e with e1 e2 e3
  subst e1 e2
  refine Kd.C_of_reads (enc := Value.int k) (d := (0 : Int)) (h1 := fun _ => rfl) ⟨rfl, hl, fun h0 => ?_⟩
  obtain ⟨ad, e, hd⟩ := hc h0
  refine ⟨ad, e, fun j hj => ?_⟩
  rw [hd j hj]
  congr 2
  exact (Dig.getD_get ys j hj).symm
theorem Hp.row_ne {W w : World} {t t' : TypeId} {k k' : IntKind} {g g' c c' : Nat} {xs xs' : List Int} {l : List Ast} (h : Hp W w (rowA t k g c xs :: rowA t' k' g' c' xs' :: l)) : g ≠ g' := by
  obtain ⟨_, _, ⟨_, rfl⟩, ⟨_, rfl⟩, _, _, ne, _⟩ := h.open2
  exact fun e => ne g' rfl e.symm
theorem fillTo_map (f : Nat → Int) (n : Nat) : fillTo f n n = (List.range n).map f := by
  apply List.ext_getElem
  · simp [fillTo]
  · intro i h1 h2
    simp [fillTo] at h1 ⊢
    omega
theorem fv_bd {l c : List Int} (hl : ∀ x ∈ l, -2147483648 ≤ x ∧ x < 2147483648) (hc : Erg.Rt c) (over : Bool) (i : Nat) (hi : i < 512) : -2147483648 ≤ Bno.fv l c over i ∧ Bno.fv l c over i < 2147483648 := by
  have h1 := Bno.lineOf_bd l hl i
  unfold Bno.fv
  split
  · exact h1
  · have hb : 0 ≤ rd c (Bno.bandOf (i : Int)) ∧ rd c (Bno.bandOf (i : Int)) ≤ 26 := hc.getD _
    have := Bno.pow26 ⟨(rd c (Bno.bandOf (i : Int))).toNat, by omega⟩
    have := Bno.tmod_bd (Bno.lineOf l i) (2 ^ (rd c (Bno.bandOf (i : Int))).toNat) h1.1 h1.2 this.1 this.2.1
    omega
theorem fill_h {W w : World} {L : List Ast} (H : Hp W w L) {A : Option Addr} {n ca : Nat} {B : Option Addr} {cb : Nat} {l c : List Int} (rl : Src w .i32 (.slice A n ca) l) (hca : n ≤ ca) (hn : n ≤ 1500) (hl : ∀ x ∈ l, -2147483648 ≤ x ∧ x < 2147483648)
    (rc : Src w .i64 (.slice B 21 cb) c) (hcb : 21 ≤ cb) (hc : Erg.Rt c) (over : Bool) :
    Calls Try.prog 50 #[.slice A n ca, .slice B 21 cb, .bool over] w fun en w' => ∃ g1 k1 g2 k2, en = .returned (.tuple #[.slice (some ⟨g1, 0, none⟩) 512 k1, .slice (some ⟨g2, 0, none⟩) 512 k2]) ∧ 512 ≤ k1 ∧
      Hp W w' (rowA 21 .i32 g1 k1 ((List.range 512).map (Bno.fv l c over)) :: rowA 2 .i64 g2 k2 ((List.range 512).map (Bno.fv l c over)) :: L) := by
  have e1 : l.length = n := by obtain ⟨_, _, e, _⟩ := rl; injection e with _ e _; exact e.symm
  have c1 := C_of_src rl (by omega)
  have c2 := C_of_src rc (by decide)
  have h := Bno.fill_calls A ca l B cb c over w c1 (by omega) c2 (by rw [hc.len]; exact hcb) ⟨by omega, hl, hc.len, fun b hb => hc.getD b⟩
  rw [e1, hc.len] at h
  refine h.mono ?_
  rintro en w' ⟨v0, v1, rfl, r0, r1, b⟩
  obtain ⟨g1, k1, rfl, hg1, r1'⟩ := rowI_of_R r0 (by simp)
  obtain ⟨g2, k2, rfl, hg2, r2'⟩ := rowI_of_R r1 (by simp)
  have hk := r1'.len
  have ln : ((List.range 512).map (Bno.fv l c over)).length = 512 := by simp
  rw [ln] at hk ⊢
  refine ⟨g1, k1, g2, k2, rfl, hk.1, ?_⟩
  have hne : g1 ≠ g2 := fun e => by
    subst e
    obtain ⟨_, b1, _⟩ := r1'
    obtain ⟨_, b2, _⟩ := r2'
    exact absurd (Blk.inj b1 b2).1 (by decide)
  exact Hp.apart (H.new b (A' := Ast.both (rowA 21 .i32 g1 k1 _) (rowA 2 .i64 g2 k2 _)) ⟨_, _, ⟨r1', rfl⟩, ⟨r2', rfl⟩, fun k hk e => hne (e.symm.trans hk), rfl⟩ (fun k hk => by
    rcases hk with hk | hk
    · have : k = g1 := hk
      omega
    · have : k = g2 := hk
      omega))
set_option maxRecDepth 100000 in
theorem same_calls {w : World} {u v : Value} {l : List Int} (s1 : Src w .i32 u l) (s2 : Src w .i64 v l) (hl : l.length ≤ 1000000) (hb : ∀ x ∈ l, -2147483648 ≤ x ∧ x < 2147483648) :
    Calls Try.prog 56 #[u, v] w fun e w' => e = .returned (.bool true) ∧ ∃ n, w' = w.drewN n := by
  have S1 := Lib.hid s1
  have S2 := Lib.hid s2
  have HB := Lib.hid hb
  obtain ⟨A, c, rfl, _⟩ := s1
  obtain ⟨B, c2, rfl, _⟩ := s2
  obtain ⟨n, hn⟩ : ∃ n, l.length = n := ⟨_, rfl⟩
  rw [hn] at S1 S2 hl ⊢
  have HN := Lib.hid hn
  clear hn hb
  go_enter Try.func56, Try.ntmps56
  go_wp2_with fail
  go_loopw [13] (fun u wr => ∃ k : Nat, k ≤ n ∧ u = .int .i64 (k : Int) ∧ ∃ q, wr = w.drewN q) (fun u _ => n - (intOf u).toNat)
  case atStart => exact ⟨0, by omega, rfl, 0, rfl⟩
  case round =>
    obtain ⟨k, hk, rfl, q, rfl⟩ := hrel
    by_cases hlt : k < n
    · obtain ⟨ad, rfl, d1⟩ := S1.out.cell (j := k) (by rw [HN.out]; exact hlt)
      obtain ⟨ad', rfl, d2⟩ := S2.out.cell (j := k) (by rw [HN.out]; exact hlt)
      have d1 : (w.drewN q).cell? (ad.add k) = _ := d1
      have d2 : (w.drewN q).cell? (ad'.add k) = _ := d2
      have ik : (k : Int) < (n : Int) := by omega
      have bx := HB.out _ (List.getElem_mem (show k < l.length by rw [HN.out]; exact hlt))
      generalize l[k]'(by rw [HN.out]; exact hlt) = x at *
      have w1 : IntKind.i64.wrap x = x := wrapI64 (by omega) (by omega)
      go_wp2_with fail
      go_quiet (fail)
      go_wp2_with fail
      go_roundw
      case rel => exact ⟨k + 1, by omega, by push_cast; rfl, q + nq, rfl⟩
      case measure =>
        show n - ((k : Int) + 1).toNat < n - (k : Int).toNat
        omega
    · obtain rfl : k = n := by omega
      go_wp2_with fail
      go_ret
      exact ⟨rfl, q, rfl⟩
/-- Ceilings and steps of any bytes. -/
def pc (b : List Int) (i : Nat) : Int := if b.length = 0 then 0 else b.getD (i % b.length) 0 % 27
def ps (b : List Int) (i : Nat) : Int := if b.length = 0 then 0 else min (max (max (pc b i - b.getD ((i + 1) % b.length) 0 % 14) 0) (pc b i - 12)) 26
def PC (b : List Int) : List Int := fillTo (pc b) 21 21
def PS (b : List Int) : List Int := fillTo (ps b) 21 21
theorem getD_fill (f : Nat → Int) (n k : Nat) (h : k < n) : (fillTo f n n).getD k 0 = f k := by
  rw [Dig.getD_get _ k (by rw [fillTo_len]; exact h)]
  exact fillTo_all' f n k h
theorem plan_ok (b : List Int) (hb : ∀ x ∈ b, 0 ≤ x ∧ x ≤ 255) : Plan (PC b) (PS b) := by
  have h1 : ∀ k, 0 ≤ pc b k ∧ pc b k ≤ 26 := fun k => by unfold pc; split <;> omega
  have h2 : ∀ k, (0 ≤ ps b k ∧ ps b k ≤ 26) ∧ pc b k - ps b k ≤ 12 := fun k => by
    have := h1 k
    unfold ps
    split
    · rename_i h0
      have e : pc b k = 0 := by unfold pc; rw [if_pos h0]
      omega
    · omega
  refine ⟨⟨fillTo_len _ _ _, fun k hk => ?_⟩, ⟨fillTo_len _ _ _, fun k hk => ?_⟩, fun k hk => ?_⟩
  · have hk : k < 21 := by unfold PC at hk; rwa [fillTo_len] at hk
    have e : (PC b)[k] = pc b k := fillTo_all' (pc b) 21 k hk
    have e2 := h1 k
    rw [← e] at e2
    exact e2
  · have hk : k < 21 := by unfold PS at hk; rwa [fillTo_len] at hk
    have e : (PS b)[k] = ps b k := fillTo_all' (ps b) 21 k hk
    have e2 := (h2 k).1
    rw [← e] at e2
    exact e2
  · unfold PC PS
    rw [getD_fill _ 21 k hk, getD_fill _ 21 k hk]
    exact (h2 k).2
set_option maxHeartbeats 4000000 in
set_option maxRecDepth 100000 in
theorem plan_h {W w : World} {L : List Ast} (H : Hp W w L) {A : Option Addr} {n ca : Nat} {b : List Int} (rb : Rd W L .u8 (.slice A n ca) b) (hn : n ≤ 1000) (hb : ∀ x ∈ b, 0 ≤ x ∧ x ≤ 255) :
    Calls Try.prog 49 #[.slice A n ca] w fun en w' => ∃ g1 g2, en = .returned (.tuple #[.slice (some ⟨g1, 0, none⟩) 21 21, .slice (some ⟨g2, 0, none⟩) 21 21]) ∧ Hp W w' (rowA 3 .i64 g1 21 (PC b) :: rowA 3 .i64 g2 21 (PS b) :: L) := by
  have hm : ∀ w : World, (Instr.makeSlice 54 (.int .i64 21) (.int .i64 21)).run Try.prog w = .ok (.slice (some ⟨w.heap.size, 0, none⟩) 21 21) (w.alloc (.cells (madeCells #[.int .i64 0] 21) 3)) := fun w => run_make_row' 54 3 (.int .i64 0) 8 Try.underlying54 (by kernel_rfl) rfl .i64 .i64 21 (by omega) (by omega) w
  have e1 : b.length = n := by obtain ⟨_, _, e, _⟩ := rb w H; injection e with _ e _; exact e.symm
  have RB := Lib.hid rb
  have HB := Lib.hid hb
  have H0 := Lib.hid H
  clear rb hb H
  go_enter Try.func49, Try.ntmps49
  go_wp2_with fail
  have Z0 := fillTo_zero (pc b) 21
  have Z1 := fillTo_zero (ps b) 21
  have HZ : Hid (List.replicate 21 (0 : Int) = fillTo (pc b) 21 0 ∧ List.replicate 21 (0 : Int) = fillTo (ps b) 21 0) := Lib.hid ⟨Z0.symm, Z1.symm⟩
  clear Z0 Z1
  go_cut [4, 5] (fun v5 v6 wc => ∃ G1 G2 : Nat, v5 = .slice (some ⟨G1, 0, none⟩) 21 21 ∧ v6 = .slice (some ⟨G2, 0, none⟩) 21 21 ∧ Hid (Hp W wc (rowA 3 .i64 G1 21 (List.replicate 21 0) :: rowA 3 .i64 G2 21 (List.replicate 21 0) :: L)))
  case first =>
    have h2 := (H0.out.new_row 3 .i64 21 0 (by decide)).new_row 3 .i64 21 0 (by decide)
    rw [show (w.alloc (.cells (madeCells #[.int .i64 0] 21) 3)).heap.size = w.heap.size + 1 from by simp] at h2
    have H2 := Lib.hid h2
    clear h2
    go_region
    all_goals (go_wp2; go_meet)
    · exact ⟨_, _, rfl, rfl, Lib.hid H2.out.up1.drew⟩
    · exact ⟨_, _, rfl, rfl, Lib.hid H2.out.drew⟩
  case rest =>
    obtain ⟨G1, G2, rfl, rfl, H⟩ := hcut
    have H1 : Hid (Hp W wc (rowA 3 .i64 G1 21 (fillTo (pc b) 21 0) :: rowA 3 .i64 G2 21 (fillTo (ps b) 21 0) :: L)) := Lib.hid (by rw [← HZ.out.1, ← HZ.out.2]; exact H.out)
    clear H HZ H0 hm
    go_wp2_with fail
    go_loopw [11] (fun u wr => ∃ k : Nat, k ≤ 21 ∧ u = .int .i64 (k : Int) ∧ Hid (Hp W wr (rowA 3 .i64 G1 21 (fillTo (pc b) 21 k) :: rowA 3 .i64 G2 21 (fillTo (ps b) 21 k) :: L))) (fun u _ => 21 - (intOf u).toNat)
    case atStart => exact ⟨0, by omega, rfl, H1⟩
    case round =>
      clear H1
      obtain ⟨k, hk, rfl, H⟩ := hrel
      by_cases hlt : k < 21
      · have SC := Lib.hid (fillTo_set (pc b) 21 k)
        have SS := Lib.hid (fillTo_set (ps b) 21 k)
        by_cases hz : 0 < n
        · have hk1 : k % n < n := Nat.mod_lt _ hz
          have hk2 : (k + 1) % n < n := Nat.mod_lt _ hz
          obtain ⟨ad, rfl, _⟩ := (RB.out wr H.out.drop.drop).cell (j := k % n) (by rw [e1]; exact hk1)
          have BD := Lib.hid ((show Rd W L .u8 (.slice (some ad) b.length ca) b by rw [e1]; exact RB.out).cell (j := k % n) (by rw [e1]; exact hk1))
          have BE := Lib.hid ((show Rd W L .u8 (.slice (some ad) b.length ca) b by rw [e1]; exact RB.out).cell (j := (k + 1) % n) (by rw [e1]; exact hk2))
          have b1 := HB.out _ (List.getElem_mem (show k % n < b.length by rw [e1]; exact hk1))
          have b2 := HB.out _ (List.getElem_mem (show (k + 1) % n < b.length by rw [e1]; exact hk2))
          have HP : Hid (pc b k = b[k % n]'(by rw [e1]; exact hk1) % 27) := Lib.hid (by
            have h2 := Dig.getD_get b (k % n) (by rw [e1]; exact hk1)
            unfold pc
            rw [if_neg (by omega), ← h2]
            congr 3)
          have HQ : Hid (ps b k = min (max (max (b[k % n]'(by rw [e1]; exact hk1) % 27 - b[(k + 1) % n]'(by rw [e1]; exact hk2) % 14) 0) (b[k % n]'(by rw [e1]; exact hk1) % 27 - 12)) 26) := Lib.hid (by
            have h3 := Dig.getD_get b ((k + 1) % n) (by rw [e1]; exact hk2)
            unfold ps
            rw [if_neg (by omega), HP.out, ← h3]
            congr 6
            rw [e1])
          generalize b[k % n]'(by rw [e1]; exact hk1) = x at *
          generalize b[(k + 1) % n]'(by rw [e1]; exact hk2) = y at *
          rw [HP.out] at SC
          rw [HQ.out] at SS
          obtain ⟨j1, hj1⟩ : ∃ j, k % n = j := ⟨_, rfl⟩
          obtain ⟨j2, hj2⟩ : ∃ j, (k + 1) % n = j := ⟨_, rfl⟩
          rw [hj1] at BD hk1
          rw [hj2] at BE hk2
          have t1 : Int.tmod (k : Int) (n : Int) = (j1 : Int) := by rw [← hj1, Int.tmod_eq_emod_of_nonneg (by omega)]; exact (Int.natCast_emod k n).symm
          have t2 : Int.tmod ((k : Int) + 1) (n : Int) = (j2 : Int) := by rw [← hj2, Int.tmod_eq_emod_of_nonneg (by omega)]; exact (Int.natCast_emod (k + 1) n).symm
          have t3 : Int.tmod x 27 = x % 27 := Int.tmod_eq_emod_of_nonneg (by omega)
          have t4 : Int.tmod y 14 = y % 14 := Int.tmod_eq_emod_of_nonneg (by omega)
          have z1 : (n : Int) ≠ 0 := by omega
          have z3 : ¬ n = 0 := by omega
          have z2 : ((n : Int) == 0) = false := by rw [beq_eq_false_iff_ne]; omega
          have i1 : (j1 : Int) < (n : Int) := by omega
          have i2 : (j2 : Int) < (n : Int) := by omega
          have iz : (0 : Int) < (n : Int) := by omega
          have v1 : IntKind.i64.wrap (j1 : Int) = (j1 : Int) := wrapI64 (by omega) (by omega)
          have v2 : IntKind.i64.wrap (j2 : Int) = (j2 : Int) := wrapI64 (by omega) (by omega)
          have v3 : IntKind.i64.wrap (x % 27) = x % 27 := wrapI64 (by omega) (by omega)
          have v4 : IntKind.i64.wrap (y % 14) = y % 14 := wrapI64 (by omega) (by omega)
          have v5 : IntKind.i64.wrap x = x := wrapI64 (by omega) (by omega)
          have v6 : IntKind.i64.wrap y = y := wrapI64 (by omega) (by omega)
          have dk := H.out.row.cell (i := k) (by rw [fillTo_len]; exact hlt)
          have fk := H.out.row.free k
          have d1 := BD.out wr H.out.drop.drop
          clear hj1 hj2
          generalize (fillTo (pc b) 21 k)[k]'(by rw [fillTo_len]; exact hlt) = y0 at *
          go_wp2_with fail
          have H1 := Lib.hid (H.out.set k (x % 27))
          rw [SC.out] at H1
          clear H dk fk d1
          generalize wr.setCell ⟨G1, k, none⟩ (.int .i64 (x % 27)) = w1 at *
          have GC : (fillTo (pc b) 21 (k + 1))[k]'(by rw [fillTo_len]; exact hlt) = x % 27 := by
            rw [← HP.out]; simp [fillTo]
          have d3 : w1.drew.cell? ⟨G1, k, none⟩ = some (.int .i64 (x % 27)) := by rw [← GC]; exact H1.out.drew.row.cell (by rw [fillTo_len]; exact hlt)
          have d4 : w1.drew.cell? (ad.add j2) = some (.int .u8 y) := BE.out _ H1.out.drew.drop.drop
          have D5 := Lib.hid (fun v : Int => (show (w1.drew.setCell ⟨G2, k, none⟩ (.int .i64 v)).cell? ⟨G1, k, none⟩ = some (.int .i64 (x % 27)) from by rw [← GC]; exact (H1.out.drew.up1.set k v).up1.row.cell (by rw [fillTo_len]; exact hlt)))
          have D6 := Lib.hid (fun v : Int => (show (w1.drew.setCell ⟨G2, k, none⟩ (.int .i64 v)).cell? (ad.add j2) = some (.int .u8 y) from BE.out _ (H1.out.drew.up1.set k v).up1.drop.drop))
          have dk := H1.out.drew.up1.row.cell (i := k) (by rw [fillTo_len]; exact hlt)
          have fk := H1.out.drew.up1.row.free k
          generalize (fillTo (ps b) 21 k)[k]'(by rw [fillTo_len]; exact hlt) = y1 at *
          have v7 : IntKind.i64.wrap (x % 27 - y % 14) = x % 27 - y % 14 := wrapI64 (by omega) (by omega)
          have v8 : IntKind.i64.wrap (x % 27 - 12) = x % 27 - 12 := wrapI64 (by omega) (by omega)
          have v9 : IntKind.i64.wrap ((k : Int) + 1) = (k : Int) + 1 := wrapI64 (by omega) (by omega)
          clear GC
          go_region_held3 (fun w' => w'.cell? ⟨G1, k, none⟩ = some (.int .i64 (x % 27)) ∧ w'.cell? (ad.add j2) = some (.int .u8 y)) (first | exact ⟨d3, d4⟩ | exact ⟨D5.out _, D6.out _⟩) (fail)
          go_wp2_with fail
          go_roundw
          case rel =>
            refine ⟨k + 1, by omega, by push_cast; rfl, Lib.hid ?_⟩
            have SV : (fillTo (ps b) 21 k).set k (if (if x % 27 - y % 14 < 0 then 0 else x % 27 - y % 14) < x % 27 - 12 then x % 27 - 12 else if x % 27 - y % 14 < 0 then 0 else x % 27 - y % 14) = fillTo (ps b) 21 (k + 1) := by
              rw [← SS.out]
              congr 1
              split <;> split <;> omega
            rw [← SV]
            exact (H1.out.up1.set k _).up1.drew
          case measure =>
            show 21 - ((k : Int) + 1).toNat < 21 - (k : Int).toNat
            omega
        · obtain rfl : n = 0 := by omega
          have P0 : Hid (pc b k = 0) := Lib.hid (by unfold pc; rw [if_pos e1])
          have Q0 : Hid (ps b k = 0) := Lib.hid (by unfold ps; rw [if_pos e1])
          have KC := Lib.hid (fillTo_skip (pc b) 21 k P0.out)
          have KS := Lib.hid (fillTo_skip (ps b) 21 k Q0.out)
          go_wp2_with fail
          go_roundw
          case rel => exact ⟨k + 1, by omega, by push_cast; rfl, Lib.hid (by rw [← KC.out, ← KS.out]; exact H.out)⟩
          case measure =>
            show 21 - ((k : Int) + 1).toNat < 21 - (k : Int).toNat
            omega
      · obtain rfl : k = 21 := by omega
        go_wp2_with fail
        go_ret2
        exact ⟨_, _, rfl, H.out⟩
end Go.Proofs.Ytlbjoflmfboeeaa.Qnt

/-
  Law 12's lives; no condition but those told.
-/
set_option linter.unusedVariables false
set_option linter.unusedSimpArgs false
namespace Go.Proofs.Ytlbjoflmfboeeaa.Qnt
open Go.RowKit Go.Proofs.Ytlbjoflmfboeeaa Go.Proofs.YtlbjoflmfboeeaaW.PrintWords Go.Proofs.YtlbjoflmfboeeaaW.PrintLast Go.Proofs.YtlbjoflmfboeeaaW.PrintMore Go.Proofs.Ytlbjoflmfboeeaa.Deco Go.Proofs.Ytlbjoflmfboeeaa.Ceil

/-- The chapter's example. -/
def XL : List Int := (List.replicate 512 0).set 0 21
def CL : List Int := (List.replicate 21 0).set 0 5
def SL : List Int := (List.replicate 21 0).set 0 2
theorem plan_L : Plan CL SL := qrB_plan (by decide +kernel)
theorem hv_L0 : hv CL SL XL 1 0 = 20 := by decide +kernel
theorem hv_L1 : hv CL SL XL 1 1 = 0 := by decide +kernel
theorem xl_L : XL.length = 512 := by unfold XL; rw [List.length_set, List.length_replicate]
theorem xb_L : ∀ y ∈ XL, -2147483648 ≤ y ∧ y < 2147483648 := by
  intro y hy
  unfold XL at hy
  rcases List.mem_or_eq_of_mem_set hy with h | h
  · have := List.eq_of_mem_replicate h; omega
  · omega
attribute [local irreducible] hv XL CL SL
set_option maxHeartbeats 4000000 in
set_option maxRecDepth 100000 in
theorem lives_h {W w : World} {L : List Ast} (H : Hp W w L) : Calls Try.prog 48 #[] w fun en w' => en = .returned (.bool true) ∧ Hp W w' L := by
  have hm : ∀ w : World, (Instr.makeSlice 54 (.int .i64 21) (.int .i64 21)).run Try.prog w = .ok (.slice (some ⟨w.heap.size, 0, none⟩) 21 21) (w.alloc (.cells (madeCells #[.int .i64 0] 21) 3)) := fun w => run_make_row' 54 3 (.int .i64 0) 8 Try.underlying54 (by kernel_rfl) rfl .i64 .i64 21 (by omega) (by omega) w
  have hm2 : ∀ w : World, (Instr.makeSlice 86 (.int .i64 512) (.int .i64 512)).run Try.prog w = .ok (.slice (some ⟨w.heap.size, 0, none⟩) 512 512) (w.alloc (.cells (madeCells #[.int .i32 0] 512) 21)) := fun w => run_make_row' 86 21 (.int .i32 0) 4 Try.underlying86 (by kernel_rfl) rfl .i64 .i64 512 (by omega) (by omega) w
  have H1 : Hid (Hp W (w.alloc (.cells (madeCells #[.int .i32 0] 512) 21)) (rowA 21 .i32 w.heap.size 512 (List.replicate 512 0) :: L)) := Lib.hid (H.new_row 21 .i32 512 0 (by decide))
  have dk := H1.out.row.cell (i := 0) (by simp)
  have fk := H1.out.row.free 0
  go_enter Try.func48, Try.ntmps48
  go_wp2_with fail
  have H2 : Hid (Hp W (w.alloc (.cells ((madeCells #[.int .i32 0] 512).setIfInBounds 0 (.int .i32 21)) 21)) (rowA 21 .i32 w.heap.size 512 ((List.replicate 512 0).set 0 21) :: L)) := Lib.hid (by
    have := H1.out.set 0 21
    rwa [World.setCell_alloc_new] at this)
  have hsz : (w.alloc (.cells ((madeCells #[.int .i32 0] 512).setIfInBounds 0 (.int .i32 21)) 21)).heap.size = w.heap.size + 1 := by simp
  clear H1 dk fk H hm2
  generalize w.alloc (.cells ((madeCells #[.int .i32 0] 512).setIfInBounds 0 (.int .i32 21)) 21) = w2 at *
  generalize w.heap.size = GL at *
  go_cut [2, 3] (fun v5 v6 wc => ∃ G1 G2 : Nat, v5 = .slice (some ⟨G1, 0, none⟩) 21 21 ∧ v6 = .slice (some ⟨G2, 0, none⟩) 21 21 ∧ Hid (Hp W wc (rowA 3 .i64 G1 21 (List.replicate 21 0) :: rowA 3 .i64 G2 21 (List.replicate 21 0) :: rowA 21 .i32 GL 512 ((List.replicate 512 0).set 0 21) :: L)))
  case first =>
    have h2 := (H2.out.new_row 3 .i64 21 0 (by decide)).new_row 3 .i64 21 0 (by decide)
    rw [show (w2.alloc (.cells (madeCells #[.int .i64 0] 21) 3)).heap.size = w2.heap.size + 1 from by simp] at h2
    rw [hsz] at h2
    have H3 := Lib.hid h2
    clear h2
    go_region
    all_goals (go_wp2; go_meet)
    · exact ⟨_, _, rfl, rfl, Lib.hid H3.out.up1.drew⟩
    · exact ⟨_, _, rfl, rfl, Lib.hid H3.out.drew⟩
  case rest =>
    obtain ⟨G1, G2, rfl, rfl, H⟩ := hcut
    clear H2 hm hsz
    have dk1 := H.out.row.cell (i := 0) (by simp)
    have fk1 := H.out.row.free 0
    have dk2 := H.out.up1.row.cell (i := 0) (by simp)
    have fk2 := H.out.up1.row.free 0
    have hne := Hp.row_ne H.out
    have hne2 := hne.symm
    have H5 : Hid (Hp W ((wc.setCell ⟨G1, 0, none⟩ (.int .i64 5)).setCell ⟨G2, 0, none⟩ (.int .i64 2)) (rowA 3 .i64 G1 21 CL :: rowA 3 .i64 G2 21 SL :: rowA 21 .i32 GL 512 XL :: L)) := Lib.hid (by unfold CL SL XL; exact ((H.out.set 0 5).up1.set 0 2).up1)
    clear H
    go_wp2_with fail
    refine (Heard_h H5.out 1 ((Rd.rown xl_L).tail.tail) (Rd.rown (n := 21) plan_L.hc.len) ((Rd.rown (n := 21) plan_L.hs.len).tail) plan_L xl_L xb_L).mono ?_
    rintro e6 w6 ⟨g, cap, rfl, h6⟩
    have H6 := Lib.hid h6
    have r0 := h6.row.cell (i := 0) (by rw [fillTo_len]; decide)
    have r1 := h6.row.cell (i := 1) (by rw [fillTo_len]; decide)
    have f0 : (fillTo (hv CL SL XL 1) 512 512)[0]'(by rw [fillTo_len]; decide) = 20 := by rw [← hv_L0]; exact fillTo_all' _ 512 0 (by decide)
    have f1 : (fillTo (hv CL SL XL 1) 512 512)[1]'(by rw [fillTo_len]; decide) = 0 := by rw [← hv_L1]; exact fillTo_all' _ 512 1 (by decide)
    rw [f0] at r0
    rw [f1] at r1
    clear f0 f1 h6 H5 dk1 dk2 fk1 fk2
    go_wp2_with fail
    go_ret
    exact ⟨rfl, H6.out.drop.drop.drop.drop⟩
end Go.Proofs.Ytlbjoflmfboeeaa.Qnt

/-
  Law 12: QuantPuts; no condition.
-/
set_option linter.unusedVariables false
set_option linter.unusedSimpArgs false
namespace Go.Proofs.Ytlbjoflmfboeeaa.Qnt
open Go.RowKit Go.Proofs.Ytlbjoflmfboeeaa Go.Proofs.YtlbjoflmfboeeaaW.PrintWords Go.Proofs.YtlbjoflmfboeeaaW.PrintLast Go.Proofs.YtlbjoflmfboeeaaW.PrintMore Go.Proofs.Ytlbjoflmfboeeaa.Deco Go.Proofs.Ytlbjoflmfboeeaa.Ceil

attribute [local irreducible] PC PS gRun openS qrun rqrun Enc.bytesS Enc.fresh Enc.rfresh Enc.strip itm hv
set_option maxHeartbeats 4000000 in
set_option maxRecDepth 100000 in
theorem puts_law (a0 : Option Addr) (len0 cap0 : Nat) (z0 : List Int) (a1 : Option Addr) (len1 cap1 : Nat) (z1 : List Int) (seed : Int) (W : World) (h0 : IsRow .i32 W a0 len0 cap0 z0) (y0 : len0 * 4 ≤ 140737488351232) (h1 : IsRow .u8 W a1 len1 cap1 z1) (y1 : len1 * 1 ≤ 140737488351232) (wf2 : (Lit.int .u32 seed).wf = true) :
    Calls Try.prog 13 #[.slice a0 len0 cap0, .slice a1 len1 cap1, .int .u32 seed] W fun e w' => e = .returned (.bool true) ∧ Below W.heap.size W w' := by
  by_cases hs : 1500 < len0 ∨ 60 < len1
  · by_cases hs1 : 1500 < len0
    · go_enter Try.func13, Try.ntmps13
      go_wp2_with fail
      refine (lives_h (Hp.nil W)).mono ?_
      rintro e1 w1 ⟨rfl, h1⟩
      have H1 := Lib.hid h1
      clear h1
      go_wp2_with fail
      refine (lives_h H1.out).mono ?_
      rintro e2 w2 ⟨rfl, h2⟩
      have H2 := Lib.hid h2
      clear h2
      go_wp2_with fail
      go_ret
      exact ⟨rfl, H2.out.b⟩
    · have hs2 : 60 < len1 := by omega
      clear hs
      go_enter Try.func13, Try.ntmps13
      go_wp2_with fail
      refine (lives_h (Hp.nil W)).mono ?_
      rintro e1 w1 ⟨rfl, h1⟩
      have H1 := Lib.hid h1
      clear h1
      go_wp2_with fail
      refine (lives_h H1.out).mono ?_
      rintro e2 w2 ⟨rfl, h2⟩
      have H2 := Lib.hid h2
      clear h2
      go_wp2_with fail
      go_ret
      exact ⟨rfl, H2.out.b⟩
  have hs1 : len0 ≤ 1500 := by omega
  have hs2 : len1 ≤ 60 := by omega
  clear hs
  have SB := Lib.hid h0.src
  have SA := Lib.hid h1.src
  have WL : Hid (∀ x ∈ z0.take len0, -2147483648 ≤ x ∧ x < 2147483648) := Lib.hid (fun x hx => by
    have := h0.wf x hx
    have := Ceil.wf_i32 this
    omega)
  have WA : Hid (∀ x ∈ z1.take len1, 0 ≤ x ∧ x ≤ 255) := Lib.hid (fun x hx => wf_u8 (h1.wf x hx))
  have WS := Ceil.wf_u32 wf2
  have L0 := h0.take_len
  have L1 := h1.take_len
  have hcap : len0 ≤ cap0 := by
    rcases h0 with ⟨_, rfl, rfl, _⟩ | ⟨_, _, h, _⟩
    · exact Nat.le_refl _
    · exact h
  clear h0 h1 y0 y1 wf2
  generalize z0.take len0 = l at *
  generalize z1.take len1 = av at *
  subst L0 L1
  have k1 : decide ((1500 : Int) < (l.length : Int)) = false := decide_eq_false (by omega)
  have k2 : decide ((60 : Int) < (av.length : Int)) = false := decide_eq_false (by omega)
  have PL := Lib.hid (plan_ok av WA.out)
  have t2 : Int.tmod seed 2 = seed % 2 := Int.tmod_eq_emod_of_nonneg (by omega)
  go_enter Try.func13, Try.ntmps13
  go_wp2_with fail
  refine (lives_h (Hp.nil W)).mono ?_
  rintro e1 w1 ⟨rfl, h1⟩
  have H1 := Lib.hid h1
  clear h1
  go_wp2_with fail
  refine (plan_h H1.out (Rd.arg SA.out) (by omega) WA.out).mono ?_
  rintro e2 w2 ⟨g1, g2, rfl, h2⟩
  have H2 := Lib.hid h2
  clear h2 H1
  generalize PC av = c at *
  generalize PS av = st at *
  have lc := PL.out.hc.len
  have ls := PL.out.hs.len
  go_wp2_with fail
  have XB := Lib.hid (fun i (hi : i < 512) => fv_bd WL.out PL.out.hc (seed % 2 == 0) i hi)
  refine (fill_h H2.out (Src.below SB.out H2.out.b) hcap (by omega) WL.out ((Rd.rown (n := 21) lc) _ H2.out) (by decide) PL.out.hc _).mono ?_
  rintro e3 w3 ⟨g3, k3, g4, k4, rfl, hk3, h3⟩
  have xb : Hid (∀ y ∈ (List.range 512).map (Bno.fv l c (seed % 2 == 0)), -2147483648 ≤ y ∧ y < 2147483648) := Lib.hid (fun y hy => by
    obtain ⟨i, hi, rfl⟩ := List.mem_map.1 hy
    exact XB.out i (List.mem_range.1 hi))
  have xl : ((List.range 512).map (Bno.fv l c (seed % 2 == 0))).length = 512 := by simp
  have H3 := Lib.hid h3
  clear h3 H2
  generalize (List.range 512).map (Bno.fv l c (seed % 2 == 0)) = x at *
  clear XB
  go_wp2_with fail
  refine (Enc.New_h H3.out).mono ?_
  rintro e5 w5 ⟨en, rfl, h5⟩
  have H5 := Lib.hid h5
  clear h5 H3
  go_wp2_with fail
  refine (Enc.RNew_h H5.out).mono ?_
  rintro e6 w6 ⟨rn, rfl, h6⟩
  have H6 : Hid (Hp W w6 (encA en Enc.fresh :: [rencA rn Enc.rfresh, rowA 21 .i32 g3 k3 x, rowA 2 .i64 g4 k4 x, rowA 3 .i64 g1 21 c, rowA 3 .i64 g2 21 st])) := Lib.hid h6.up1
  clear h6 H5
  have K0 : Enc.fresh.k = 0 := by unfold Enc.fresh; rfl
  have R0 : Enc.rfresh.K = 0 := by unfold Enc.rfresh; rfl
  go_wp2_with fail
  refine (Put_h H6.out Enc.fresh_rdy (by omega) hk3 ((Rd.rown xl).pk [1]) ((Rd.rown lc).pk [3]) ((Rd.rown ls).pk [4]) PL.out xl xb.out).mono ?_
  rintro e7 w7 ⟨rfl, h7⟩
  have H7 : Hid (Hp W w7 (rencA rn Enc.rfresh :: [encA en (qrun (itm c st x) (Enc.fresh, ones) 512).1, rowA 21 .i32 g3 k3 x, rowA 2 .i64 g4 k4 x, rowA 3 .i64 g1 21 c, rowA 3 .i64 g2 21 st])) := Lib.hid h7.up1
  clear h7 H6
  go_wp2_with fail
  refine (PutLines_h H7.out Enc.rfresh_good (by omega) ((Rd.rown xl).pk [2]) ((Rd.rown lc).pk [3]) ((Rd.rown ls).pk [4]) PL.out xl xb.out).mono ?_
  rintro e8 w8 ⟨rfl, h8⟩
  have H8 : Hid (Hp W w8 [encA en (qrun (itm c st x) (Enc.fresh, ones) 512).1, rencA rn (rqrun (itm c st x) (Enc.rfresh, ones) 512).1, rowA 21 .i32 g3 k3 x, rowA 2 .i64 g4 k4 x, rowA 3 .i64 g1 21 c, rowA 3 .i64 g2 21 st]) := Lib.hid h8.up1
  clear h8 H7
  have EF := Lib.hid (qrun_fine (x := x) PL.out (fine0 Enc.fresh_rdy) 512 (by omega))
  have RF := Lib.hid (rqrun_fine (x := x) PL.out (rfine0 Enc.rfresh_good) 512 (by omega))
  have RR := Lib.hid (qrun_rel (x := x) (P := (Enc.fresh, ones)) PL.out (rfine0 Enc.rfresh_good) Enc.fresh_rel rfl 512 (by omega))
  have BR := Lib.hid (Enc.bytes_rel RR.out.1 RF.out.1.r)
  have BYT := Lib.hid (Enc.bytes_byt RR.out.1 RF.out.1.r)
  have DIG := Lib.hid RF.out.1.r.dig
  have KR := RR.out.1.k
  have KE := EF.out.2
  simp only at KE
  have LEN : (rqrun (itm c st x) (Enc.rfresh, ones) 512).1.D.length ≤ 9000 := by rw [RF.out.1.r.len]; omega
  have IN : Hid (Inside (Enc.bytesS (qrun (itm c st x) (Enc.fresh, ones) 512).1) (rqrun (itm c st x) (Enc.rfresh, ones) 512).1) := Lib.hid (inside_own RF.out.1.r _ (fun i _ => by rw [BR.out]; exact strip_getD _ i))
  have RDY := Lib.hid EF.out.1.r
  have KE2 : (qrun (itm c st x) (Enc.fresh, ones) 512).1.k ≤ 6000 := by omega
  obtain ⟨bs, hbs⟩ : ∃ bs, Enc.bytesS (qrun (itm c st x) (Enc.fresh, ones) 512).1 = bs := ⟨_, rfl⟩
  have HBS := Lib.hid hbs
  rw [hbs] at BR BYT IN
  have BYT1 : Hid (Byt bs) := Lib.hid ⟨BYT.out.1, by have := BYT.out.2; omega⟩
  have GI := Lib.hid (gRun_inv (x := x) PL.out seed (P := (openS bs, ones)) (rfine0 Enc.rfresh_good) (open_rel bs) rfl (by simp only [Erg.openS_bs]; exact BYT1.out.1) (by simp only [Erg.openS_bs]; exact IN.out) 512 (by omega))
  have Y0 := Lib.hid (open_ready bs BYT1.out)
  have Z0 := Erg.openS_n bs
  clear hbs EF RR BYT IN RF KR KE
  have CC := Lib.hid (Enc.Bytes_h H8.out RDY.out (by omega))
  rw [HBS.out] at CC
  generalize qrun (itm c st x) (Enc.fresh, ones) 512 = EE at *
  generalize rqrun (itm c st x) (Enc.rfresh, ones) 512 = RX at *
  go_wp2_with fail
  refine CC.out.mono ?_
  rintro e9 w9 ⟨vb, rfl, h9⟩
  have H9 : Hid (Hp W w9 (rencA rn RX.1 :: [slA 5 .u8 vb bs, rowA 21 .i32 g3 k3 x, rowA 2 .i64 g4 k4 x, rowA 3 .i64 g1 21 c, rowA 3 .i64 g2 21 st])) := Lib.hid (h9.pk [2, 0, 1, 1, 1, 1])
  clear h9 CC H8 HBS RDY
  go_wp2_with fail
  refine wp_region_noPanic ?_
  refine wp_region_any (by kernel_rfl) ?_
  try (change wpAny _ _ _ _ _ _ _ (World.drew _))
  refine wpAny_take (i := 0) (v := ?_) rfl (by kernel_rfl) (by kernel_rfl) (by kernel_rfl) (fun _ _ _ h => h) (Or.inl ⟨by kernel_rfl, ?_⟩) ?_
  rotate_left
  · intro w
    first | (go_simp; done) | (go_simp; with_reducible rfl)
  try simp only [Act.put, List.getElem_toArray, List.getElem_cons_zero, List.getElem_cons_succ, List.setIfInBounds_toArray, List.set_cons_zero, List.set_cons_succ]
  refine wpAny_take (i := 1) (v := ?_) rfl (by kernel_rfl) (by kernel_rfl) (by kernel_rfl) (fun _ _ _ h => h) (Or.inl ⟨by kernel_rfl, ?_⟩) ?_
  rotate_left
  · intro w
    first | (go_simp; done) | (go_simp; with_reducible rfl)
  try simp only [Act.put, List.getElem_toArray, List.getElem_cons_zero, List.getElem_cons_succ, List.setIfInBounds_toArray, List.set_cons_zero, List.set_cons_succ]
  refine wpAny_take (i := 2) (v := ?_) rfl (by kernel_rfl) (by kernel_rfl) (by kernel_rfl) (fun _ _ _ h => h) (Or.inl ⟨by kernel_rfl, ?_⟩) ?_
  rotate_left
  · intro w
    first | (go_simp; done) | (go_simp; with_reducible rfl)
  try simp only [Act.put, List.getElem_toArray, List.getElem_cons_zero, List.getElem_cons_succ, List.setIfInBounds_toArray, List.set_cons_zero, List.set_cons_succ]
  refine wpAny_take (i := 3) (v := ?_) rfl (by kernel_rfl) (by kernel_rfl) (by kernel_rfl) (fun _ _ _ h => h) (Or.inl ⟨by kernel_rfl, ?_⟩) ?_
  rotate_left
  · intro w
    first | (go_simp; done) | (go_simp; with_reducible rfl)
  try simp only [Act.put, List.getElem_toArray, List.getElem_cons_zero, List.getElem_cons_succ, List.setIfInBounds_toArray, List.set_cons_zero, List.set_cons_succ]
  refine wpAny_take (i := 5) (v := ?_) rfl (by kernel_rfl) (by kernel_rfl) (by kernel_rfl) (fun _ _ _ h => h) (Or.inl ⟨by kernel_rfl, ?_⟩) ?_
  rotate_left
  · intro w
    first | (go_simp; done) | (go_simp; with_reducible rfl)
  try simp only [Act.put, List.getElem_toArray, List.getElem_cons_zero, List.getElem_cons_succ, List.setIfInBounds_toArray, List.set_cons_zero, List.set_cons_succ]
  refine wpAny_of_held (S := fun w => Src w .u8 vb bs) _ _ _ _ ?_
  have hHeld := Src.of_sl H9.out.drew.up1.sl
  refine wpAnyH_take (i := 4) (v := ?_) rfl (by kernel_rfl) (by kernel_rfl) (by kernel_rfl) (fun _ _ _ h => h) (Or.inl ⟨by kernel_rfl, ?_⟩) hHeld ?_
  rotate_left
  · intro w hSw
    have cvA := Src.str (P := Try.prog) (w := w) (src := 35) (dst := 9) Try.underlying35 Try.underlying5 Try.underlying9 (hSw)
    first | (go_simp; done) | (go_simp; with_reducible rfl)
  try simp only [Act.put, List.getElem_toArray, List.getElem_cons_zero, List.getElem_cons_succ, List.setIfInBounds_toArray, List.set_cons_zero, List.set_cons_succ]
  refine wpAnyH_ready (rs := [6]) (by kernel_rfl) (by simp) ?_
  refine AllReadyH.cons rfl (fun K hK => ?_) AllReadyH.nil
  go_simp
  go_at_call 31
  refine (Enc.RBytes_h H9.out.drew DIG.out (by omega)).mono ?_
  rintro e11 w11 ⟨v11, rfl, h11⟩
  rw [← BR.out] at h11
  have H11 := Lib.hid h11
  have cv2 := Src.str (P := Try.prog) (w := w11) (src := 35) (dst := 9) Try.underlying35 Try.underlying5 Try.underlying9 (Src.of_sl h11.sl)
  clear h11 H9
  go_simp
  refine hK.out _ _ (Src.of_sl H11.out.up2.sl) (fun hHeld => ?_)
  clear hK K
  try simp only [Act.put, List.getElem_toArray, List.getElem_cons_zero, List.getElem_cons_succ, List.setIfInBounds_toArray, List.set_cons_zero, List.set_cons_succ]
  refine wpAnyH_ready (rs := [7]) (by kernel_rfl) (by simp) ?_
  refine AllReadyH.cons rfl (fun K hK => ?_) AllReadyH.nil
  go_simp
  refine hK.out _ _ hHeld (fun hHeld => ?_)
  clear hK K
  try simp only [Act.put, List.getElem_toArray, List.getElem_cons_zero, List.getElem_cons_succ, List.setIfInBounds_toArray, List.set_cons_zero, List.set_cons_succ]
  refine wpAnyH_take (i := 8) (v := ?_) rfl (by kernel_rfl) (by kernel_rfl) (by kernel_rfl) (fun _ _ _ h => h) (Or.inl ⟨by kernel_rfl, ?_⟩) (by assumption) ?_
  rotate_left
  · intro w hSw
    first | (go_simp; done) | (go_simp; with_reducible rfl)
  try simp only [Act.put, List.getElem_toArray, List.getElem_cons_zero, List.getElem_cons_succ, List.setIfInBounds_toArray, List.set_cons_zero, List.set_cons_succ]
  refine wpAnyH_take (i := 9) (v := ?_) rfl (by kernel_rfl) (by kernel_rfl) (by kernel_rfl) (fun _ _ _ h => h) (Or.inl ⟨by kernel_rfl, ?_⟩) (by assumption) ?_
  rotate_left
  · intro w hSw
    first | (go_simp; done) | (go_simp; with_reducible rfl)
  try simp only [Act.put, List.getElem_toArray, List.getElem_cons_zero, List.getElem_cons_succ, List.setIfInBounds_toArray, List.set_cons_zero, List.set_cons_succ]
  refine wpAnyH_done (by kernel_rfl) ?_ _
  refine NoPanic.normal ?_
  have H12 : Hid (Hp W w11 [slA 5 .u8 vb bs, rowA 21 .i32 g3 k3 x, rowA 3 .i64 g1 21 c, rowA 3 .i64 g2 21 st]) := Lib.hid (H11.out.pk [2, 2, 3, 3])
  clear H11 cv2
  go_wp2_with fail
  refine (Heard_h H12.out seed ((Rd.rown xl).pk [1]) ((Rd.rown lc).pk [2]) ((Rd.rown ls).pk [3]) PL.out xl xb.out).mono ?_
  rintro e13 w13 ⟨gh, kh, rfl, h13⟩
  rw [fillTo_map] at h13
  have H13 := Lib.hid h13
  clear h13 H12
  go_wp2_with fail
  refine (New_h H13.out (Src.of_sl H13.out.up1.sl) BYT1.out).mono ?_
  rintro e14 w14 ⟨d, rfl, h14⟩
  have H14 := Lib.hid h14
  clear h14 H13
  obtain ⟨T, hT⟩ : ∃ T, gRun c st seed (openS bs, ones) 512 = some ((List.range 512).map (hv c st x seed), T) := by obtain ⟨T, h, _⟩ := GI.out; exact ⟨T, h⟩
  have HT := Lib.hid hT
  have GF := Lib.hid (gRun_fine PL.out (dfine0 Y0.out) 512 (by omega) hT)
  clear hT GI
  have GG := Lib.hid (Get_h H14.out Y0.out (by omega) seed ((Rd.rown lc).pk [3]) ((Rd.rown ls).pk [4]) PL.out)
  have FIN := Lib.hid (fun (w : World) (rd : Nat) (A1 A2 A3 A4 : Ast) (LL : List Ast) (h : Hp W w (ddecA rd (openS bs) :: A1 :: A2 :: A3 :: A4 :: rowA 3 .i64 g1 21 c :: rowA 3 .i64 g2 21 st :: LL)) => GetLines_h h Y0.out (by omega) seed ((Rd.rown lc).pk [4]) ((Rd.rown ls).pk [5]) PL.out)
  rw [HT.out] at GG FIN
  have lv := GF.out.2.2.2.1
  generalize (List.range 512).map (hv c st x seed) = vs at *
  go_wp2_with fail
  refine GG.out.mono ?_
  rintro e15 w15 (⟨vs2, P15, g15, k15, hh, rfl, h15⟩ | ⟨hh, _⟩)
  · injection hh with hh
    injection hh with hh1 hh2
    subst hh1 hh2
    have H15 := Lib.hid h15
    clear h15 GG H14
    go_wp2_with fail
    refine (Open_h H15.out (Src.of_sl (H15.out.pk [3]).sl) BYT1.out).mono ?_
    rintro e16 w16 ⟨rd, rfl, h16⟩
    have h16 : Hp W w16 (ddecA rd (openS bs) :: rowA 21 .i32 g15 k15 vs :: rowA 21 .i32 gh kh vs :: slA 5 .u8 vb bs :: rowA 21 .i32 g3 k3 x :: rowA 3 .i64 g1 21 c :: rowA 3 .i64 g2 21 st :: []) := h16.pk [0, 0, 1, 1, 1, 1, 1]
    have FF := Lib.hid (FIN.out w16 rd _ _ _ _ _ h16)
    clear h16 H15
    go_wp2_with fail
    refine FF.out.mono ?_
    rintro e17 w17 (⟨vs3, P17, v17, hh, rfl, h17⟩ | ⟨hh, _⟩)
    · injection hh with hh
      injection hh with hh1 hh2
      subst hh1 hh2
      have H17 := Lib.hid h17
      clear h17 FF
      go_wp2_with fail
      refine (same_calls ((Rd.rown (n := 512) lv).pk [3] _ H17.out) (Src.of_sl H17.out.sl) (by omega) (fun x hx => by have := GF.out.2.2.2.2 x hx; omega)).mono ?_
      rintro e18 w18 ⟨rfl, n18, rfl⟩
      go_wp2_with fail
      refine (same_calls ((Rd.rown (n := 512) lv).pk [2] _ (H17.out.drewN n18)) (Src.of_sl (H17.out.drewN n18).sl) (by omega) (fun x hx => by have := GF.out.2.2.2.2 x hx; omega)).mono ?_
      rintro e19 w19 ⟨rfl, n19, rfl⟩
      go_wp2_with fail
      go_ret
      exact ⟨rfl, (H17.out.drewN _).b⟩
    · cases hh
  · cases hh
end Go.Proofs.Ytlbjoflmfboeeaa.Qnt
