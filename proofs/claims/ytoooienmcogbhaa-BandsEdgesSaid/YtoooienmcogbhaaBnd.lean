/-
  The walk of bands.quarter; no condition.
-/
import Derived.Test.YtoooienmcogbhaaBnp
set_option linter.unusedVariables false
set_option linter.unusedSimpArgs false
namespace Go.Proofs.Ytoooienmcogbhaa.Bnd
open Go.RowKit Go.Proofs.Ytoooienmcogbhaa Go.Proofs.YtoooienmcogbhaaW.PrintWords Go.Proofs.YtoooienmcogbhaaW.PrintLast Go.Proofs.YtoooienmcogbhaaW.PrintMore Go.Proofs.Ytoooienmcogbhaa.PArithRoots
attribute [local irreducible] qt QT sel arith_Root.f
set_option maxHeartbeats 4000000 in
set_option maxRecDepth 100000 in
theorem quarter_calls (w : World) : Calls Try.prog 63 #[] w fun e w' => e = .returned (.agg (vals .i64 QT)) ∧ Below w.heap.size w w' := by
  go_enter Try.func63, Try.ntmps63
  go_wp2_with fail
  rw [cells1, cells0]
  go_loopw [2] (fun v wr => ∃ e : Nat, e ≤ 10 ∧ v = .int .i64 ((2 ^ e : Nat) : Int) ∧ Hid (Blk wr w.heap.size 88 (vals .i64 (sel (fun _ => false)))) ∧ Hid (Blk wr (w.heap.size + 1) 88 (vals .i64 (sel (pw (2 ^ e))))) ∧ Hid (Below w.heap.size w wr)) (fun v _ => (intOf v).toNat)
  case atStart => exact ⟨10, by omega, rfl, (Blk.new w _ _).alloc _, Blk.new_at _ _ (by simp), (((Below.refl _ _).alloc (Nat.le_refl _) _).alloc (by simp) _ : Below _ _ _)⟩
  case round =>
    obtain ⟨e, he, rfl, h0, h1, hb⟩ := hrel
    cases e with
    | zero =>
      rw [show (2 : Nat) ^ 0 = 1 from rfl] at h1 ⊢
      rw [sel_eq _ (fun _ => true) (fun j _ => by simp [pw, Nat.mod_one]), sel_all] at h1
      obtain ⟨cs, hcs⟩ : ∃ cs, cs = vals .i64 QT := ⟨_, rfl⟩
      obtain ⟨zs, hzs⟩ : ∃ zs, zs = vals .i64 (sel (fun _ => false)) := ⟨_, rfl⟩
      have s1 : cs.size = 1025 := by rw [hcs, vals_size, ← sel_all, sel_len]
      have s2 : cs.all (·.oneCell') = true := by rw [hcs]; exact vals_one _ _
      have s3 : zs.size = cs.size := by rw [s1, hzs, vals_size, sel_len]
      rw [← hcs] at h1
      rw [← hzs] at h0
      clear hzs
      go_wp2_with (first
        | (refine wpList_load_row rfl 88 _ rfl (w.heap.size + 1) rfl 88 _ (0, 0) _ (h1.out : Blk wr (w.heap.size + 1) 88 cs) Try.underlying88 rfl (by rw [s1]; kernel_rfl) ?_)
        | (refine wpList_store_row rfl 88 _ _ rfl w.heap.size cs rfl rfl 88 _ (h0.out : Blk wr w.heap.size 88 zs) (by rw [s1]; kernel_rfl) s3 s2 ?_))
      have hb2 := Blk.row h0.out cs
      refine bodyPost_ret (results_cell_row rfl _ _ w.heap.size 88 _ (0, 0) _ rfl hb2 Try.underlying88 rfl (by rw [s1]; kernel_rfl)) rfl ⟨by rw [hcs], below_row hb.out (Nat.le_refl _) _⟩
    | succ e =>
      obtain ⟨b1, b2, b3, b4, b5⟩ := pow_e ⟨e, by omega⟩
      simp only at b1 b2 b3 b4 b5
      have r1 := root_e ⟨e, by omega⟩
      have p1 := root_pos ⟨e, by omega⟩
      have q1 := qt_bd ⟨2 ^ (e + 1), by omega⟩
      have q2 := qt_bd ⟨2 ^ e, by omega⟩
      have c1 := h1.out.cell (i := 2 ^ (e + 1)) (v := .int .i64 (qt (2 ^ (e + 1)))) (by rw [vals_get (by rw [sel_len]; omega), sel_get _ _ (by omega) (by simp [pw])])
      have M0 := fun k hk => qt_mid ⟨e, by omega⟩ ⟨k, hk⟩
      simp only at r1 q1 q2 p1 M0
      have HE := Lib.hid b3
      have HD := Lib.hid b4
      clear b3 b4
      generalize hh : 2 ^ (e + 1) = h at *
      generalize hx : qt h = x at *
      generalize hg : 2 ^ e = g at *
      generalize hy : qt g = y at *
      have HM := Lib.hid M0
      clear M0
      have e8 : (16777216 + x) * 16777216 / 2 = (16777216 + x) * 8388608 := by omega
      go_wp2_with (first
        | (go_at_call 22; refine (arith_Root.calls 60 _ _ _ r1).mono ?_; rintro z w2 ⟨rfl, ⟨m, rfl⟩⟩))
      go_loopw [4] (fun v wq => ∃ k : Nat, (k + 1) * h ≤ 1024 ∧ v = .int .i64 (((k + 1) * h : Nat) : Int) ∧ Hid (Blk wq w.heap.size 88 (vals .i64 (sel (fun _ => false)))) ∧ Hid (Blk wq (w.heap.size + 1) 88 (vals .i64 (sel (pin h ((k + 1) * h))))) ∧ Hid (Below w.heap.size w wq)) (fun v _ => 1024 - (intOf v).toNat)
      case atStart => exact ⟨0, by omega, by rw [Nat.zero_add, Nat.one_mul], h0.out.drewN m, by rw [sel_eq _ (pw h) (fun j _ => (pin_first h j (by omega)).symm)]; exact h1.out.drewN m, (pw_below_drewN hb.out m : Below _ _ _)⟩
      case round =>
        obtain ⟨k, hk, rfl, g0, g1, gb⟩ := hrel
        clear h0 h1 hb c1 e8 r1 hx
        by_cases hlt : (k + 1) * h < 1024
        · have hk2 : (k + 2) * h ≤ 1024 := by
            have hD : 1024 / h * h = 1024 := Nat.div_mul_cancel (Nat.dvd_of_mod_eq_zero HD.out)
            rw [← hD] at hlt ⊢
            have := Nat.lt_of_mul_lt_mul_right hlt
            exact Nat.mul_le_mul_right _ (by omega)
          have hk512 : k < 512 := by
            rcases Nat.lt_or_ge k 512 with hq | hq
            · exact hq
            · have : (512 + 1) * 2 ≤ (k + 1) * h := Nat.mul_le_mul (by omega) (by omega)
              omega
          have M := HM.out k hk512 hlt
          have hn : (k + 2) * h = (k + 1) * h + h := by rw [show k + 2 = (k + 1) + 1 from rfl, Nat.add_mul, Nat.one_mul]
          have ca := g1.out.cell (i := (k + 1) * h) (v := .int .i64 (qt ((k + 1) * h))) (by rw [vals_get (by rw [sel_len]; omega), sel_get _ _ (by omega) (pin_at _ _ _)])
          have cb := g1.out.cell (i := (k + 1) * h + h) (v := .int .i64 (qt ((k + 2) * h))) (by rw [← hn, vals_get (by rw [sel_len]; omega), sel_get _ _ (by omega) (pin_at _ _ _)])
          have qa := qt_bd ⟨(k + 1) * h, by omega⟩
          have qb := qt_bd ⟨(k + 2) * h, by omega⟩
          simp only at qa qb
          have HK := Lib.hid hn
          have HKB := Lib.hid hk2
          have HK2 := Lib.hid (pin_step g k)
          have eh : (h : Int) / 2 = (g : Int) := by have := HE.out; omega
          have gle : (k + 1) * h + g < 1024 := by have := HE.out; omega
          have ff := g1.out.free ((k + 1) * h + g)
          have cc := g1.out.cell (vals_get (i := (k + 1) * h + g) (by rw [sel_len]; omega))
          generalize (sel (pin h ((k + 1) * h)))[(k + 1) * h + g]'(by rw [sel_len]; omega) = zc at cc
          have HS := Lib.hid (fun j => pin_step g k j b5)
          generalize ha : (k + 1) * h = a at *
          generalize hqa : qt a = xa at *
          generalize hqb : qt ((k + 2) * h) = xb at *
          clear hn hk2
          go_wp2_with fail
          have ia : (a : Int) < 1025 := by omega
          have HB := HK.out
          have HB2 := HKB.out
          rw [HB] at HB2
          clear HB
          generalize hbq : a + h = b at *
          generalize hcq : a + g = c at *
          have w1 : IntKind.i64.wrap (g : Int) = (g : Int) := wrapI64 (by omega) (by omega)
          have w2 : IntKind.i64.wrap ((a : Int) + (g : Int)) = (c : Int) := by rw [wrapI64 (by omega) (by omega)]; omega
          have w3 : IntKind.i64.wrap ((a : Int) + (h : Int)) = (b : Int) := by rw [wrapI64 (by omega) (by omega)]; omega
          have w4 : IntKind.i64.wrap (xa + xb) = xa + xb := wrapI64 (by omega) (by omega)
          have w5 : IntKind.i64.wrap ((xa + xb) * 8388608) = (xa + xb) * 8388608 := wrapI64 (by omega) (by omega)
          have ib : (b : Int) < 1025 := by omega
          have ic : (c : Int) < 1025 := by omega
          refine region_quiet_tail 16 (by kernel_rfl) (by kernel_rfl) ?_
          simp only [List.take_succ_cons, List.take_zero, List.drop_succ_cons, List.drop_zero]
          repeat (quiet_step ((go_at_call 67; exact Calls.quiet_of_same (near_calls _ _ (by omega) (by omega) _))))
          refine wpQuiet_nil ?_
          rintro _ ⟨nq, rfl⟩
          rw [M]
          go_wp2_with fail
          refine ⟨⟨k + 1, ?_, ?_, (g0.out.drewN nq).other (a := ⟨w.heap.size + 1, c, none⟩) (by simp) _, ?_, (pw_below_drewN gb.out nq).setCell (p := ⟨w.heap.size + 1, c, none⟩) (by simp) _⟩, ?_⟩
          · exact HKB.out
          · rw [show (k + 1 + 1) * h = b from HK.out]
          · have HS' : ∀ j, j < 1025 → pin h ((k + 1 + 1) * h) j = (pin h a j || j == c) := by
              intro j _
              have hs := HS.out j
              rw [← HE.out, ha, hcq] at hs
              exact hs
            rw [← sel_set _ _ c HS']
            exact (g1.out.drewN nq).seti c (qt c)
          · simp [intOf]; omega
        · have hf : (k + 1) * h = 1024 := by omega
          rw [hf] at g1 hlt hk ⊢
          have eh : (h : Int) / 2 = (g : Int) := by have := HE.out; omega
          have ff := g1.out.free g
          have gl : g < 1025 := by have := HE.out; omega
          have cc := g1.out.cell (vals_get (i := g) (by rw [sel_len]; omega))
          generalize (sel (pin h 1024))[g]'(by rw [sel_len]; omega) = zc at cc
          have HL := Lib.hid (fun j hj => pin_last g j b5 hj (by rw [← HE.out]; exact HD.out))
          have HG := Lib.hid hg
          clear hg hh
          go_wp2_with fail
          refine ⟨⟨e, by omega, by rw [HG.out], g0.out.other (a := ⟨w.heap.size + 1, g, none⟩) (by simp) _, ?_, gb.out.setCell (p := ⟨w.heap.size + 1, g, none⟩) (by simp) _⟩, ?_⟩
          · rw [HG.out, ← sel_set _ _ g (fun j hj => by have hs := HL.out j hj; rw [← HE.out] at hs; exact hs), ← hy]
            exact g1.out.seti g (qt g)
          · simp [intOf]; omega
end Go.Proofs.Ytoooienmcogbhaa.Bnd
