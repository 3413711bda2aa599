/-
  The walks of the document's model: New, Sum, Find, Learn, and of both Fixed; no condition but those told.
-/
import Derived.Test.YtlbjoflmfboeeaaMdw
import Derived.Test.YtlbjoflmfboeeaaU3
import Derived.Deep.RegionHeld3
import Derived.Deep.RegionLaw
set_option linter.unusedVariables false
set_option linter.unusedSimpArgs false
namespace Go.Proofs.Ytlbjoflmfboeeaa.Mdl
open Go.RowKit Go.Proofs.Ytlbjoflmfboeeaa Go.Proofs.YtlbjoflmfboeeaaW.PrintWords

theorem info_int : (Try.prog.info? 3).map (fun i => (i.zero, i.size, i.bytes)) = some (some (.int .i64 0), 1, 8) := by kernel_rfl
theorem info_u32 : (Try.prog.info? 22).map (fun i => (i.zero, i.size, i.bytes)) = some (some (.int .u32 0), 1, 4) := by kernel_rfl
theorem rep_snoc (k : Nat) (x : Int) : List.replicate k x ++ [x] = List.replicate (k + 1) x := by
  rw [List.replicate_succ']
set_option maxHeartbeats 1000000 in
set_option maxRecDepth 100000 in
theorem RNew_yes (n : Nat) (h1 : 1 ≤ n) (h2 : n ≤ 64) (w : World) : Calls Try.prog 23 #[.int .i64 n] w fun e w' => ∃ m h cap, e = .returned (.tuple #[.pointer (some ⟨m, 0, none⟩), .bool true]) ∧ w.heap.size ≤ m ∧ w.heap.size ≤ h ∧ IsR w' m h cap (List.replicate n 1) false ∧ Below w.heap.size w w' := by
  go_enter Try.func23, Try.ntmps23
  go_wp2
  go_loopw [5] (fun i wr => ∃ (k : Nat) (v : Value), k ≤ n ∧ i = .int .i64 (k : Int) ∧ Hid (Blk wr w.heap.size 116 #[v, .bool false]) ∧ Hid (Sl wr 3 .i64 v (List.replicate k 1)) ∧ Hid (∀ g, v.ownBlock = some g → w.heap.size < g) ∧ Hid (Below w.heap.size w wr)) (fun v _ => n - (intOf v).toNat)
  case atStart => exact ⟨0, .slice none 0 0, by omega, rfl, Blk.new _ _ _, Sl.nil _ _ _, fun g hg => (by cases hg), ((Below.refl _ _).alloc (Nat.le_refl _) _ : Below _ _ _)⟩
  case round =>
    obtain ⟨k, v, hk, rfl, HM, HS, HN, HB⟩ := hrel
    by_cases hlt : k < n
    · have d0 := HM.out.cell (i := 0) rfl
      have hwr := HM.out.lt
      go_wp2_with (first
        | (at_builtin; refine wpList_push (.tmp 23) (.tmp 24) 54 3 .i64 0 8 rfl rfl Try.underlying54 info_int v (List.replicate k 1) k 1 ⟨wr.heap.size, 0, none⟩ (wr.heap.size + 1) rfl rfl (HS.out.alloc _) (by simp) ((Blk.new wr _ _).cell rfl) (by simp) (by omega) (by omega) ?_
           intro g cap w1 hp
           have HM1 := Lib.hid ((HM.out.alloc (.cells #[.int .i64 1] 3)).of_same (hp.block (by simp; omega) (fun e => by have := HN.out _ e; omega)))
           have d1 := HM1.out.cell (i := 0) rfl
           have f1 := HM1.out.free 0
           have HP := Lib.hid hp
           clear hp))
      go_roundw
      case rel =>
        have hgw : w.heap.size < g := by
          rcases HP.out.at_ with h | h
          · exact HN.out g h
          · omega
        refine ⟨k + 1, .slice (some ⟨g, 0, none⟩) (k + 1) cap, by omega, by push_cast; rfl, HM1.out.set 0 _, ?_, fun g' hg' => ?_, ?_⟩
        · have := Sl.row (HP.out.row.other (a := ⟨w.heap.size, 0, none⟩) (by simp; omega) (.slice (some ⟨g, 0, none⟩) (k + 1) cap))
          rw [rep_snoc, List.length_replicate] at this
          exact this
        · have e : g = g' := Option.some.inj hg'
          omega
        · exact (((HB.out.alloc HB.out.size _).trans (HP.out.only.below (B := w.heap.size) (by simp; omega) (fun i hi => by have := HN.out i hi; omega))).setCell (p := ⟨w.heap.size, 0, none⟩) (Nat.le_refl _) _ : Below _ _ _)
      case measure => simp [intOf]; omega
    · obtain rfl : k = n := by omega
      have hs := HS.out
      rcases hs with ⟨_, h0⟩ | ⟨g, cap, rfl, hr⟩
      · have := congrArg List.length h0
        rw [List.length_replicate] at this
        simp at this; omega
      · have hg := HN.out g rfl
        have HR := Lib.hid hr
        clear hr
        go_wp2
        go_ret2
        exact ⟨w.heap.size, g, cap, rfl, Nat.le_refl _, by omega, ⟨HM.out, HR.out, by omega⟩, HB.out⟩
theorem RSum_calls {w : World} {m h cap : Nat} {L : List Int} {f : Bool} (a : IsR w m h cap L f) (nn : ∀ x ∈ L, 0 ≤ x) (all : lsum L ≤ 1000000000) (s : Nat) (hs : s ≤ L.length) (hl : L.length ≤ 64) :
    Calls Try.prog 63 #[.pointer (some ⟨m, 0, none⟩), .int .i64 s] w fun e w' => e = .returned (.int .i64 (lsum (L.take s))) ∧ w' = w := by
  have d0 := a.blk.cell (i := 0) rfl
  have A := Lib.hid a
  have NN := Lib.hid nn
  clear a nn
  obtain ⟨n, hn⟩ : ∃ n, L.length = n := ⟨_, rfl⟩
  have HN := Lib.hid hn
  rw [hn] at d0 hs hl
  clear hn
  go_enter Try.func63, Try.ntmps63
  go_wp2
  go_loop [5, 6] (fun v i => ∃ k : Nat, k ≤ s ∧ i = .int .i64 (k : Int) ∧ v = .int .i64 (lsum (L.take k))) (fun _ i => s - (intOf i).toNat)
  case atStart => exact ⟨0, by omega, rfl, rfl⟩
  case round =>
    obtain ⟨k, hk, rfl, rfl⟩ := hrel
    by_cases hlt : k < s
    · have d2 := A.out.row.cell (i := k) (by rw [HN.out]; omega)
      have h1 := lsum_take_le L NN.out k
      have h2 := lsum_take_le L NN.out (k + 1)
      have h3 := NN.out _ (List.getElem_mem (show k < L.length by rw [HN.out]; omega))
      have HS := Lib.hid (lsum_take_succ L k (by rw [HN.out]; omega))
      rw [HS.out] at h2
      generalize L[k]'(by rw [HN.out]; omega) = y at *
      have i1 : (k : Int) < n := by omega
      go_wp2
      go_round
      case rel => exact ⟨k + 1, by omega, by push_cast; rfl, by rw [HS.out]⟩
      case measure => simp [intOf]; omega
    · obtain rfl : k = s := by omega
      go_wp2
      go_ret
      exact ⟨rfl, rfl⟩
/-- What is found by sums. -/
theorem find_before (L : List Int) (x : Int) (k : Nat) (hk : k < find L x) : lsum (L.take (k + 1)) ≤ x := by
  induction L generalizing x k with
  | nil => simp [find] at hk
  | cons a l ih =>
    rw [find_cons] at hk
    by_cases h : x < a ∨ l = []
    · rw [if_pos h] at hk; omega
    · rw [if_neg h] at hk
      have hxa : ¬ x < a := fun e => h (.inl e)
      cases k with
      | zero => simp [lsum]; omega
      | succ k =>
        have := ih (x - a) k (by omega)
        have e : lsum ((a :: l).take (k + 1 + 1)) = a + lsum (l.take (k + 1)) := by simp [lsum]
        omega
theorem find_at (L : List Int) (x : Int) (h0 : 0 ≤ x) (hf : find L x + 1 < L.length) : x < lsum (L.take (find L x + 1)) := by
  induction L generalizing x with
  | nil => simp at hf
  | cons a l ih =>
    rw [find_cons] at hf ⊢
    by_cases h : x < a ∨ l = []
    · rw [if_pos h] at hf ⊢
      rcases h with h | h
      · simp [lsum]; omega
      · subst h; simp at hf
    · rw [if_neg h] at hf ⊢
      have hxa : ¬ x < a := fun e => h (.inl e)
      have := ih (x - a) (by omega) (by simp at hf; omega)
      have e : lsum ((a :: l).take (find l (x - a) + 1 + 1)) = a + lsum (l.take (find l (x - a) + 1)) := by simp [lsum]
      omega
set_option maxHeartbeats 1000000 in
theorem RFind_calls {w : World} {m h cap : Nat} {L : List Int} {f : Bool} (a : IsR w m h cap L f) (good : Good L) (x : Int) (h0 : 0 ≤ x) (h1 : x < 4294967296) :
    Calls Try.prog 72 #[.pointer (some ⟨m, 0, none⟩), .int .i64 x] w fun e w' => e = .returned (.int .i64 (find L x)) ∧ w' = w := by
  have d0 := a.blk.cell (i := 0) rfl
  have hl2 := good.len2
  have hl1 := good.len1
  have A := Lib.hid a
  have G := Lib.hid good
  clear a good
  obtain ⟨n, hn⟩ : ∃ n, L.length = n := ⟨_, rfl⟩
  have HN := Lib.hid hn
  have hfl := find_lt L x (by omega)
  have HB := Lib.hid (find_before L x)
  have HT := Lib.hid (find_at L x h0)
  rw [hn] at d0 hl1 hl2 hfl HT
  generalize find L x = r at *
  clear hn
  go_enter Try.func72, Try.ntmps72
  go_wp2
  go_loopw [5] (fun i wr => ∃ k : Nat, k ≤ n ∧ i = .int .i64 (k : Int) ∧ (k ≤ r ∨ k = n ∧ r + 1 = n) ∧ wr = w) (fun i _ => n - (intOf i).toNat)
  case atStart => exact ⟨0, by omega, rfl, .inl (by omega), rfl⟩
  case round =>
    obtain ⟨k, hk, rfl, hkr, rfl⟩ := hrel
    by_cases hlt : k < n
    · have hkr2 : k ≤ r := by omega
      have hall := G.out.all
      have nn := G.out.nonneg
      have HSn := Lib.hid (RSum_calls A.out nn (by omega) (k + 1) (by rw [HN.out]; omega) (by rw [HN.out]; omega))
      have h2 := lsum_take_le L nn (k + 1)
      have b1 : k < r → lsum (L.take (k + 1)) ≤ x := HB.out k
      have b2 : k = r → r + 1 < n → x < lsum (L.take (k + 1)) := by rintro rfl hh; exact HT.out hh
      clear nn hkr
      obtain ⟨sm, hsm⟩ : ∃ sm, lsum (L.take (k + 1)) = sm := ⟨_, rfl⟩
      rw [hsm] at h2 b1 b2 HSn
      clear hsm
      have e1 : IntKind.i64.wrap ((k : Int) + 1) = ((k + 1 : Nat) : Int) := by rw [wrapI64 (by omega) (by omega)]; rfl
      by_cases hc : x < sm
      · have hrk : r = k := by
          rcases Nat.lt_or_ge k r with h | h
          · have := b1 h; omega
          · omega
        clear b1 b2
        subst hrk
        go_wp2_with (go_at_call 63; refine HSn.out.mono ?_; rintro e w' ⟨rfl, rfl⟩)
        go_ret
        exact ⟨rfl, rfl⟩
      · have hrk : k < r ∨ (k = r ∧ r + 1 = n) := by
          rcases Nat.lt_or_ge k r with h | h
          · exact .inl h
          · refine .inr ⟨by omega, ?_⟩
            rcases Nat.lt_or_ge (r + 1) n with h3 | h3
            · have := b2 (by omega) h3; omega
            · omega
        clear b1 b2
        go_wp2_with (go_at_call 63; refine HSn.out.mono ?_; rintro e w' ⟨rfl, rfl⟩)
        go_roundw
        case rel => exact ⟨k + 1, by omega, by push_cast; rfl, by omega, trivial⟩
        case measure => simp [intOf]; omega
    · obtain rfl : k = n := by omega
      have hr : r = k - 1 := by omega
      go_wp2
      go_ret
      exact ⟨by rw [Int.natCast_sub hl1]; rfl, rfl⟩
theorem RLearn_fixed {w : World} {m h cap : Nat} {L : List Int} (a : IsR w m h cap L true) (s : Nat) :
    Calls Try.prog 64 #[.pointer (some ⟨m, 0, none⟩), .int .i64 s] w fun e w' => e = .returned (.tuple #[]) ∧ w' = w := by
  have d1 := a.blk.cell (i := 1) rfl
  go_enter Try.func64, Try.ntmps64
  go_wp2
  exact bodyPost_ret (results_none rfl _ _ _) rfl ⟨rfl, rfl⟩
set_option maxHeartbeats 2000000 in
set_option maxRecDepth 100000 in
theorem RLearn_yes {w : World} {m h cap : Nat} {L : List Int} (a : IsR w m h cap L false) (good : Good L) (s : Nat) (hs : s < L.length) :
    Calls Try.prog 64 #[.pointer (some ⟨m, 0, none⟩), .int .i64 s] w fun e w' => e = .returned (.tuple #[]) ∧ IsR w' m h cap (learn L s) false ∧ Only (fun k => k = m ∨ k = h) w w' := by
  have d0 := a.blk.cell (i := 0) rfl
  have d1 := a.blk.cell (i := 1) rfl
  have d3 := a.row.cell hs
  have f3 := a.row.free s
  have hne := a.ne
  have hl2 := good.len2
  have hall := good.all
  have hb := good.at hs
  have HS := Lib.hid (lsum_bump L s hs)
  have HBL := Lib.hid (bump_len L s)
  have HBP := Lib.hid (bump_pos L s good.pos hs)
  have HW := Lib.hid a
  have HBset : Hid (bump L s = L.set s (L[s] + 32)) := Lib.hid (by unfold bump; rw [List.getD_eq_getElem?_getD, List.getElem?_eq_getElem hs]; rfl)
  have HLn : Hid (learn L s = if lsum (bump L s) > 8192 then halve (bump L s) else bump L s) := Lib.hid rfl
  obtain ⟨B, hB⟩ : ∃ B, bump L s = B := ⟨_, rfl⟩
  rw [hB] at HS HBL HBP HBset HLn
  obtain ⟨n, hn⟩ : ∃ n, L.length = n := ⟨_, rfl⟩
  rw [hn] at d0 hs hl2 HBL
  have i0 : (s : Int) < n := by omega
  have HN := Lib.hid hn
  generalize L[s]'(by omega) = x at *
  clear hB hn
  have HA := Lib.hid (Eq.refl (lsum L))
  clear a good
  have hrow : RowI (w.setCell ⟨h, s, none⟩ (.int .i64 (x + 32))) 3 .i64 h cap B := by
    rw [HBset.out]; exact HW.out.row.set s (x + 32)
  have hblk : Blk (w.setCell ⟨h, s, none⟩ (.int .i64 (x + 32))) m 116 #[.slice (some ⟨h, 0, none⟩) n cap, .bool false] := by
    have := HW.out.blk.other (a := ⟨h, s, none⟩) hne (.int .i64 (x + 32))
    rwa [HN.out] at this
  have honly : Only (fun k => k = m ∨ k = h) w (w.setCell ⟨h, s, none⟩ (.int .i64 (x + 32))) := (Only.refl _ w).set (p := ⟨h, s, none⟩) (.inl (.inr rfl)) _
  have HR := Lib.hid hrow.drew
  have HK := Lib.hid hblk.drew
  have HO := Lib.hid honly.drew
  clear hrow hblk honly
  go_enter Try.func64, Try.ntmps64
  go_wp2
  go_still_tail 14, (by kernel_rfl)
  go_wp2_with fail
  clear d0 d1 d3 f3
  generalize (w.setCell ⟨h, s, none⟩ (.int .i64 (x + 32))).drew = wm at *
  have HI : Hid (IsR wm m h cap B false) := Lib.hid ⟨by rw [HBL.out]; exact HK.out, HR.out, hne⟩
  have hsum := RSum_calls HI.out (fun x hx => by have := HBP.out x hx; omega) (by rw [HS.out]; omega) n (by rw [HBL.out]; omega) (by rw [HBL.out]; omega)
  rw [List.take_of_length_le (by rw [HBL.out]; omega)] at hsum
  have HSm := Lib.hid hsum
  have hS2 := HS.out
  clear hsum
  obtain ⟨sm, hsm⟩ : ∃ sm, lsum B = sm := ⟨_, rfl⟩
  rw [hsm] at HSm hS2 HLn
  obtain ⟨al, hal⟩ : ∃ al, lsum L = al := ⟨_, rfl⟩
  rw [hal] at hS2 hall
  have hsm9 : sm ≤ 8224 := by omega
  have hsmB : Hid (lsum B ≤ 8224) := Lib.hid (by rw [hsm]; omega)
  clear hal hS2 hsm HA HS
  have d0 := HK.out.cell (i := 0) rfl
  by_cases hc : 8192 < sm
  · refine HSm.out.mono ?_
    rintro e w' ⟨rfl, rfl⟩
    go_wp2
    go_loopw [4] (fun v wr => ∃ k : Nat, k ≤ n ∧ v = .int .i64 (k : Int) ∧ Hid (Blk wr m 116 #[.slice (some ⟨h, 0, none⟩) n cap, .bool false]) ∧ Hid (RowI wr 3 .i64 h cap (mix (halve B) B k)) ∧ Hid (Only (fun k => k = m ∨ k = h) w wr)) (fun v _ => n - (intOf v).toNat)
    case atStart => exact ⟨0, by omega, rfl, HK, by rw [mix_zero]; exact HR, HO⟩
    case round =>
      clear HI HSm d0 HR HK HO
      obtain ⟨k, hk, rfl, HK, HR, HO⟩ := hrel
      have e0 := HK.out.cell (i := 0) rfl
      by_cases hlt : k < n
      · have hlen : (halve B).length = B.length := halve_len B
        have e3 := HR.out.cell (i := k) (by rw [mix_len _ _ _ hlen (by rw [hlen, HBL.out]; omega), HBL.out]; omega)
        rw [mix_get _ _ _ hlen (by rw [HBL.out]; omega)] at e3
        have g3 := HR.out.free k
        have HM := Lib.hid (mix_set (halve B) B k hlen (by rw [hlen, HBL.out]; omega))
        have hg := halve_get B k (by rw [HBL.out]; omega) (h' := by rw [hlen, HBL.out]; omega)
        rw [hg] at HM
        have hy1 := HBP.out _ (List.getElem_mem (show k < B.length by rw [HBL.out]; omega))
        have hset : B = L.set s (x + 32) := HBset.out
        have i1 : (k : Int) < n := by omega
        have hy2 : B[k]'(by rw [HBL.out]; omega) ≤ 1000000 := by
          have h1 := lsum_take_le B (fun x hx => by have := HBP.out x hx; omega) k
          have h2 := lsum_take_le B (fun x hx => by have := HBP.out x hx; omega) (k + 1)
          rw [lsum_take_succ B k (by rw [HBL.out]; omega)] at h2
          have := hsmB.out
          omega
        clear hset hg
        generalize B[k]'(by rw [HBL.out]; omega) = y at *
        go_wp2
        go_still_tail 15, (by kernel_rfl)
        go_wp2
        go_roundw
        case rel => exact ⟨k + 1, by omega, by push_cast; rfl, (HK.out.other (a := ⟨h, k, none⟩) hne (.int .i64 ((y + 1) / 2))).drew, by rw [← HM.out]; exact (HR.out.set k _).drew, (HO.out.set (p := ⟨h, k, none⟩) (.inl (.inr rfl)) _).drew⟩
        case measure => simp [intOf]; omega
      · obtain rfl : k = n := by omega
        go_wp2
        rw [HLn.out, if_pos hc]
        have hlen : (halve B).length = B.length := halve_len B
        have hfin : IsR wr m h cap (halve B) false := ⟨by rw [hlen, HBL.out]; exact HK.out, by
          have := HR.out
          rw [← HBL.out, mix_all _ _ hlen] at this
          exact this, hne⟩
        exact bodyPost_end (results_none rfl _ _ _) rfl ⟨rfl, hfin, HO.out⟩
  · refine HSm.out.mono ?_
    rintro e w' ⟨rfl, rfl⟩
    go_wp2
    rw [HLn.out, if_neg (by omega)]
    exact bodyPost_end (results_none rfl _ _ _) rfl ⟨rfl, HI.out, HO.out⟩
set_option maxHeartbeats 2000000 in
set_option maxRecDepth 100000 in
theorem Fixed_yes (L : List Int) (good : Good L) (A0 : Option Addr) (c0 : Nat) (w : World) (hr : Kd.C (Kd.int .u32) w A0 L.length L) (hc : L.length ≤ c0) :
    Calls Try.prog 24 #[.slice A0 L.length c0] w fun e w' => ∃ m h cap, e = .returned (.tuple #[.pointer (some ⟨m, 0, none⟩), .int .i64 0]) ∧ w.heap.size ≤ m ∧ w.heap.size ≤ h ∧ Is w' m h cap L true ∧ Below w.heap.size w w' := by
  have HR := Lib.hid hr
  have G := Lib.hid good
  have h1 := good.len1
  have h2 := good.len2
  obtain ⟨n, hn⟩ : ∃ n, L.length = n := ⟨_, rfl⟩
  have HN := Lib.hid hn
  rw [hn] at h1 h2 hc ⊢
  clear hn hr good
  go_enter Try.func24, Try.ntmps24
  go_wp2
  go_loopw [19] (fun i wr => ∃ (k : Nat) (v : Value), k ≤ n ∧ i = .int .i64 (k : Int) ∧ Hid (Blk wr w.heap.size 107 #[v, .int .u32 (lsum (L.take k)), .bool true]) ∧ Hid (Sl wr 22 .u32 v (L.take k)) ∧ Hid (∀ g, v.ownBlock = some g → w.heap.size < g) ∧ Hid (Below w.heap.size w wr)) (fun v _ => n - (intOf v).toNat)
  case atStart => exact ⟨0, .slice none 0 0, by omega, rfl, Blk.new _ _ _, Sl.nil _ _ _, fun g hg => (by cases hg), ((Below.refl _ _).alloc (Nat.le_refl _) _ : Below _ _ _)⟩
  case round =>
    obtain ⟨k, v, hk, rfl, HM, HS, HNw, HB⟩ := hrel
    by_cases hlt : k < n
    · have d0 := HM.out.cell (i := 0) rfl
      have d1 := HM.out.cell (i := 1) rfl
      have hwr := HM.out.lt
      obtain ⟨ad, rfl, dk⟩ := cell_C HR.out (i := k) (by rw [HN.out]; omega)
      have had : (ad.add k).block < w.heap.size := World.block_lt_of_cell? w _ dk
      rw [← HB.out.cell had] at dk
      have hgk := G.out.at (k := k) (by rw [HN.out]; omega)
      have hall := G.out.all
      have HSum := Lib.hid (lsum_take_succ L k (by rw [HN.out]; omega))
      have HTk := Lib.hid (List.take_succ_eq_append_getElem (show k < L.length by rw [HN.out]; omega))
      have hlk : (L.take k).length = k := by rw [List.length_take, HN.out]; omega
      have HLk := Lib.hid hlk
      generalize L[k]'(by rw [HN.out]; omega) = y at *
      generalize lsum (L.take k) = sm at *
      generalize lsum L = al at *
      clear hlk
      go_wp2
      have f0 := HM.out.free 0
      have f1 := HM.out.free 1
      go_region_law ((refine step_push _ _ _ 22 .u32 0 4 (by rfl) (by rfl) Try.underlying45 info_u32 v (L.take k) k y ⟨wr.heap.size, 0, none⟩ (wr.heap.size + 1) (by rfl) (by rfl) ?_ HLk.out ?_ ?_ ?_ ?_ ?_
                      · exact (HS.out.alloc _).drew
                      · exact (Blk.new wr _ _).cell (i := 0) rfl
                      · simp
                      · omega
                      · omega
                      intro g cap w1 hp
                      have HM1 := Lib.hid ((HM.out.alloc (.cells #[.int .u32 y] 22)).drew.of_same (hp.block (by simp; omega) (fun e => by have := HNw.out _ e; simp at this)))
                      have d0' := HM1.out.cell (i := 0) rfl
                      have d1' := HM1.out.cell (i := 1) rfl
                      have f0' := HM1.out.free 0
                      have f1' := HM1.out.free 1
                      have HP := Lib.hid hp
                      clear hp))
      all_goals
        go_wp2
        go_roundw
        case rel =>
          have hgw : w.heap.size < g := by
            rcases HP.out.at_ with h | h
            · exact HNw.out g h
            · omega
          refine ⟨k + 1, .slice (some ⟨g, 0, none⟩) (k + 1) cap, by omega, by push_cast; rfl, ?_, ?_, fun g' hg' => ?_, ?_⟩
          · rw [HSum.out]
            exact (HM1.out.set 0 _).set 1 _
          · have hrow := HP.out.row
            rw [← HTk.out] at hrow
            have := Sl.row ((hrow.other (a := ⟨w.heap.size, 0, none⟩) (by simp; omega) (.slice (some ⟨g, 0, none⟩) (k + 1) cap)).other (a := ⟨w.heap.size, 1, none⟩) (by simp; omega) (.int .u32 (sm + y)))
            have hl : (L.take (k + 1)).length = k + 1 := by rw [List.length_take, HN.out]; omega
            rw [hl] at this
            exact this
          · have e : g = g' := Option.some.inj hg'
            omega
          · have hA : Below w.heap.size w (wr.alloc (.cells #[.int .u32 y] 22)).drew := (HB.out.alloc HB.out.size _).drew
            exact (((hA.trans (HP.out.only.below (B := w.heap.size) (by simp; omega) (fun i hi => by have := HNw.out i hi; omega))).setCell (p := ⟨w.heap.size, 0, none⟩) (Nat.le_refl _) _).setCell (p := ⟨w.heap.size, 1, none⟩) (Nat.le_refl _) _ : Below _ _ _)
        case measure => simp [intOf]; omega
    · obtain rfl : k = n := by omega
      rw [List.take_of_length_le (by rw [HN.out]; omega)] at HM HS
      have hs := HS.out
      rcases hs with ⟨_, h0⟩ | ⟨g, cap, rfl, hr⟩
      · have := congrArg List.length h0
        rw [HN.out] at this
        simp at this; omega
      · have hg := HNw.out g rfl
        have HRw := Lib.hid hr
        clear hr
        rw [HN.out] at HM
        go_wp2
        go_ret2
        exact ⟨w.heap.size, g, cap, rfl, Nat.le_refl _, by omega, ⟨by rw [HN.out]; exact HM.out, HRw.out, by omega⟩, HB.out⟩
set_option maxHeartbeats 2000000 in
set_option maxRecDepth 100000 in
theorem RFixed_yes (L : List Int) (good : Good L) (A0 : Option Addr) (c0 : Nat) (w : World) (hr : Kd.C (Kd.int .u32) w A0 L.length L) (hc : L.length ≤ c0) :
    Calls Try.prog 25 #[.slice A0 L.length c0] w fun e w' => ∃ m h cap, e = .returned (.tuple #[.pointer (some ⟨m, 0, none⟩), .bool true]) ∧ w.heap.size ≤ m ∧ w.heap.size ≤ h ∧ IsR w' m h cap L true ∧ Below w.heap.size w w' := by
  have HR := Lib.hid hr
  have G := Lib.hid good
  have h1 := good.len1
  have h2 := good.len2
  obtain ⟨n, hn⟩ : ∃ n, L.length = n := ⟨_, rfl⟩
  have HN := Lib.hid hn
  rw [hn] at h1 h2 hc ⊢
  clear hn hr good
  go_enter Try.func25, Try.ntmps25
  go_wp2
  go_loopw [5] (fun i wr => ∃ (k : Nat) (v : Value), k ≤ n ∧ i = .int .i64 (k : Int) ∧ Hid (Blk wr w.heap.size 116 #[v, .bool true]) ∧ Hid (Sl wr 3 .i64 v (L.take k)) ∧ Hid (∀ g, v.ownBlock = some g → w.heap.size < g) ∧ Hid (Below w.heap.size w wr)) (fun v _ => n - (intOf v).toNat)
  case atStart => exact ⟨0, .slice none 0 0, by omega, rfl, Blk.new _ _ _, Sl.nil _ _ _, fun g hg => (by cases hg), ((Below.refl _ _).alloc (Nat.le_refl _) _ : Below _ _ _)⟩
  case round =>
    obtain ⟨k, v, hk, rfl, HM, HS, HNw, HB⟩ := hrel
    by_cases hlt : k < n
    · have d0 := HM.out.cell (i := 0) rfl
      have f0 := HM.out.free 0
      have hwr := HM.out.lt
      obtain ⟨ad, rfl, dk⟩ := cell_C HR.out (i := k) (by rw [HN.out]; omega)
      have had : (ad.add k).block < w.heap.size := World.block_lt_of_cell? w _ dk
      rw [← HB.out.cell had] at dk
      have hgk := G.out.at (k := k) (by rw [HN.out]; omega)
      have hall := G.out.all
      have HTk := Lib.hid (List.take_succ_eq_append_getElem (show k < L.length by rw [HN.out]; omega))
      have hlk : (L.take k).length = k := by rw [List.length_take, HN.out]; omega
      have HLk := Lib.hid hlk
      generalize L[k]'(by rw [HN.out]; omega) = y at *
      generalize lsum (L.take k) = sm at *
      generalize lsum L = al at *
      have hyz : (y == 0) = false := by rw [beq_eq_false_iff_ne]; omega
      have ik : (k : Int) < n := by omega
      have hbk : ad.block < w.heap.size := by rw [add_block] at had; exact had
      have hbk2 : ad.block ≠ w.heap.size := by omega
      have ew : IntKind.i64.wrap y = y := wrapI64 (by omega) (by omega)
      clear hlk
      go_wp2
      go_region_law ((refine step_push _ _ _ 3 .i64 0 8 (by rfl) (by rfl) Try.underlying54 info_int v (L.take k) k y ⟨wr.heap.size, 0, none⟩ (wr.heap.size + 1) (by rfl) (by rfl) ?_ HLk.out ?_ ?_ ?_ ?_ ?_
                      · exact (HS.out.alloc _).drew
                      · exact (Blk.new wr _ _).cell (i := 0) rfl
                      · simp
                      · omega
                      · omega
                      intro g cap w1 hp
                      have HM1 := Lib.hid ((HM.out.alloc (.cells #[.int .i64 y] 3)).drew.of_same (hp.block (by simp; omega) (fun e => by have := HNw.out _ e; simp at this)))
                      have d0' := HM1.out.cell (i := 0) rfl
                      have f0' := HM1.out.free 0
                      have hk' : w1.cell? (ad.add k) = wr.cell? (ad.add k) := (hp.grown.cell_far (ad.add k) (by simp; omega) (fun e => by have := HNw.out _ e.symm; omega)).trans ((((Below.refl _ _).alloc (Nat.le_refl _) _).drew : Below wr.heap.size wr (wr.alloc (.cells #[.int .i64 y] 3)).drew).cell (by omega))
                      rw [dk] at hk'
                      have hk2 : (w1.setCell ⟨w.heap.size, 0, none⟩ (.slice (some ⟨g, 0, none⟩) (k + 1) cap)).cell? (ad.add k) = some (.int .u32 y) := (World.cell?_of_block (Below.heap_setCell w1 ⟨w.heap.size, 0, none⟩ _ _ (by rw [add_block]; exact hbk2))).trans hk'
                      have HP := Lib.hid hp
                      clear hp))
      all_goals
        go_wp2
        go_roundw
        case rel =>
          have hgw : w.heap.size < g := by
            rcases HP.out.at_ with h | h
            · exact HNw.out g h
            · omega
          refine ⟨k + 1, .slice (some ⟨g, 0, none⟩) (k + 1) cap, by omega, by push_cast; rfl, ?_, ?_, fun g' hg' => ?_, ?_⟩
          · exact HM1.out.set 0 _
          · have hrow := HP.out.row
            rw [← HTk.out] at hrow
            have := Sl.row (hrow.other (a := ⟨w.heap.size, 0, none⟩) (by simp; omega) (.slice (some ⟨g, 0, none⟩) (k + 1) cap))
            have hl : (L.take (k + 1)).length = k + 1 := by rw [List.length_take, HN.out]; omega
            rw [hl] at this
            exact this
          · have e : g = g' := Option.some.inj hg'
            omega
          · have hA : Below w.heap.size w (wr.alloc (.cells #[.int .i64 y] 3)).drew := (HB.out.alloc HB.out.size _).drew
            exact ((hA.trans (HP.out.only.below (B := w.heap.size) (by simp; omega) (fun i hi => by have := HNw.out i hi; omega))).setCell (p := ⟨w.heap.size, 0, none⟩) (Nat.le_refl _) _ : Below _ _ _)
        case measure => simp [intOf]; omega
    · obtain rfl : k = n := by omega
      rw [List.take_of_length_le (by rw [HN.out]; omega)] at HS
      have hs := HS.out
      rcases hs with ⟨_, h0⟩ | ⟨g, cap, rfl, hr⟩
      · have := congrArg List.length h0
        rw [HN.out] at this
        simp at this; omega
      · have hg := HNw.out g rfl
        have HRw := Lib.hid hr
        clear hr
        have HI : Hid (IsR wr w.heap.size g cap L true) := Lib.hid ⟨HM.out, HRw.out, by omega⟩
        have hsum := RSum_calls HI.out G.out.nonneg (by have := G.out.all; omega) k (by rw [HN.out]; omega) (by rw [HN.out]; omega)
        rw [List.take_of_length_le (by rw [HN.out]; omega)] at hsum
        have hall := G.out.all
        have HSm := Lib.hid hsum
        clear hsum
        generalize lsum L = al at *
        rw [HN.out] at HM
        go_wp2_with (go_at_call 63; refine HSm.out.mono ?_; rintro e w' ⟨rfl, rfl⟩)
        go_ret2
        exact ⟨w.heap.size, g, cap, rfl, Nat.le_refl _, by omega, HI.out, HB.out⟩
theorem RLearn_any {w : World} {m h cap : Nat} {L : List Int} {f : Bool} (a : IsR w m h cap L f) (good : Good L) (s : Nat) (hs : s < L.length) :
    Calls Try.prog 64 #[.pointer (some ⟨m, 0, none⟩), .int .i64 s] w fun e w' => e = .returned (.tuple #[]) ∧ IsR w' m h cap (next f L s) f ∧ Only (fun k => k = m ∨ k = h) w w' := by
  cases f with
  | true =>
    refine (RLearn_fixed a s).mono ?_
    rintro e w' ⟨rfl, rfl⟩
    exact ⟨rfl, a, Only.refl _ _⟩
  | false => exact RLearn_yes a good s hs
end Go.Proofs.Ytlbjoflmfboeeaa.Mdl
