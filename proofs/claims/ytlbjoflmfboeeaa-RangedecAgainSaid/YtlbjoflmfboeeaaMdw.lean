/-
  The walks of the program's model: New, Part, Find, Learn; no condition but those told.
-/
import Derived.Test.YtlbjoflmfboeeaaMdl
import Derived.Test.YtlbjoflmfboeeaaChecked
set_option linter.unusedVariables false
set_option linter.unusedSimpArgs false
namespace Go.Proofs.Ytlbjoflmfboeeaa.Mdl
open Go.RowKit Go.Proofs.Ytlbjoflmfboeeaa Go.Proofs.YtlbjoflmfboeeaaW.PrintWords

theorem lsum_rep (n : Nat) : lsum (List.replicate n 1) = n := by
  induction n with
  | zero => rfl
  | succ n ih => rw [List.replicate_succ]; simp [lsum]; omega
theorem good_new (n : Nat) (h1 : 1 ≤ n) (h2 : n ≤ 64) : Good (List.replicate n 1) :=
  ⟨by simpa using h1, by simpa using h2, fun x hx => by rw [List.eq_of_mem_replicate hx]; omega, by rw [lsum_rep]; omega⟩
theorem fillTo_ones (n : Nat) : fillTo (fun _ => 1) n n = List.replicate n 1 := by
  rw [fillTo_all]
  apply List.ext_getElem <;> simp
set_option maxHeartbeats 1000000 in
theorem New_yes (n : Nat) (h1 : 1 ≤ n) (h2 : n ≤ 64) (w : World) : Calls Try.prog 16 #[.int .i64 n] w fun e w' => ∃ m h, e = .returned (.tuple #[.pointer (some ⟨m, 0, none⟩), .int .i64 0]) ∧ w.heap.size ≤ m ∧ w.heap.size ≤ h ∧ Is w' m h n (List.replicate n 1) false ∧ Below w.heap.size w w' := by
  have m1 : ∀ w : World, (Instr.makeSlice 45 (.int .i64 n) (.int .i64 n)).run Try.prog w = .ok (.slice (some ⟨w.heap.size, 0, none⟩) n n) (w.alloc (.cells (madeCells #[.int .u32 0] n) 22)) := fun w => run_make_row' 45 22 (.int .u32 0) 4 Try.underlying45 (by kernel_rfl) rfl .i64 .i64 n (by omega) (by omega) w
  go_enter Try.func16, Try.ntmps16
  go_wp2
  have hsz : w.heap.size < w.heap.size + 1 := Nat.lt_succ_self _
  go_loopw [23] (fun v wr => ∃ k : Nat, k ≤ n ∧ v = .int .i64 (k : Int) ∧ Hid (Blk wr (w.heap.size + 1) 107 #[.slice (some ⟨w.heap.size, 0, none⟩) n n, .int .u32 (n : Int), .bool false]) ∧ Hid (RowI wr 22 .u32 w.heap.size n (fillTo (fun _ => 1) n k)) ∧ Hid (Below w.heap.size w wr)) (fun v _ => n - (intOf v).toNat)
  case atStart => exact ⟨0, by omega, rfl, Blk.new_at _ _ (by simp), by rw [fillTo_zero]; exact (RowI.new w _ _ n 0 (by unfold maxLen; omega)).alloc _, (((Below.refl _ _).alloc (Nat.le_refl _) _).alloc (by simp) _ : Below _ _ _)⟩
  case round =>
    obtain ⟨k, hk, rfl, HM, HR, HB⟩ := hrel
    have d0 := HM.out.cell (i := 0) rfl
    by_cases hlt : k < n
    · have d1 := HR.out.cell (i := k) (by rw [fillTo_len]; exact hlt)
      rw [fillTo_at] at d1
      have f1 := HR.out.free k
      go_wp2
      refine ⟨⟨k + 1, by omega, by push_cast; rfl, HM.out.other (a := ⟨w.heap.size, k, none⟩) (by simp) _, ?_, HB.out.setCell (p := ⟨w.heap.size, k, none⟩) (by simp) _⟩, by simp [intOf]; omega⟩
      rw [← fillTo_set]
      exact HR.out.set k 1
    · obtain rfl : k = n := by omega
      go_wp2
      go_ret2
      rw [fillTo_ones] at HR
      exact ⟨w.heap.size + 1, w.heap.size, rfl, by omega, by omega, ⟨by rw [lsum_rep, List.length_replicate]; exact HM.out, HR.out, by omega⟩, HB.out⟩
theorem New_no (n : Int) (h : n < 1 ∨ 64 < n) (w : World) : Calls Try.prog 16 #[.int .i64 n] w fun e w' => e = .returned (.tuple #[.pointer none, .int .i64 1]) ∧ w' = w := by
  rcases h with h | h
  · go_enter Try.func16, Try.ntmps16
    go_wp2
    go_ret2
    exact ⟨rfl, rfl⟩
  · have h' : ¬ n < 1 := by omega
    go_enter Try.func16, Try.ntmps16
    go_wp2
    go_ret2
    exact ⟨rfl, rfl⟩
/-- A part, as a value. -/
def part (lo ow al : Int) : Value := .agg #[.int .u32 lo, .int .u32 ow, .int .u32 al]
theorem Part_none (s : Value) (w : World) : Calls Try.prog 61 #[.pointer none, s] w fun e w' => e = .returned (.tuple #[part 0 0 0, .int .i64 1]) ∧ Below w.heap.size w w' := by
  go_enter Try.func61, Try.ntmps61
  go_wp2
  refine bodyPost_ret (v := .tuple #[part 0 0 0, .int .i64 1]) (by simp [results, Try.results61, go_sem]; rfl) rfl ⟨rfl, ((Below.refl _ _).alloc (Nat.le_refl _) _ : Below _ _ _)⟩
set_option maxHeartbeats 1000000 in
set_option maxRecDepth 100000 in
theorem Part_some {w : World} {m h cap : Nat} {L : List Int} {f : Bool} (a : Is w m h cap L f) (good : Good L) (s : Nat) (hs : s < L.length) :
    Calls Try.prog 61 #[.pointer (some ⟨m, 0, none⟩), .int .i64 s] w fun e w' => e = .returned (.tuple #[part (lsum (L.take s)) (L.getD s 0) (lsum L), .int .i64 0]) ∧ Below w.heap.size w w' := by
  have d0 := a.blk.cell (i := 0) rfl
  have d1 := a.blk.cell (i := 1) rfl
  have d2 := a.row.cell hs
  have hl2 := good.len2
  have hm := a.blk.lt
  have hh := a.row.lt
  have hc := a.row.len.1
  have A := Lib.hid a
  have G := Lib.hid good
  obtain ⟨n, hn⟩ : ∃ n, L.length = n := ⟨_, rfl⟩
  have HN := Lib.hid hn
  rw [hn] at d0 hs hl2 hc
  have i0 : (s : Int) < n := by omega
  obtain ⟨x, hx⟩ : ∃ x, L[s]'(by omega) = x := ⟨_, rfl⟩
  rw [hx] at d2
  have HX := Lib.hid hx
  clear hx hn
  go_enter Try.func61, Try.ntmps61
  go_wp2
  go_region
  go_wp2
  clear d0 d1 d2
  go_loopw [44] (fun v wr => ∃ k : Nat, k ≤ s ∧ v = .int .i64 (k : Int) ∧ Hid (Blk wr w.heap.size 31 #[.int .u32 0, .int .u32 0, .int .u32 0]) ∧ Hid (Blk wr (w.heap.size + 1) 31 #[.int .u32 (lsum (L.take k)), .int .u32 x, .int .u32 (lsum L)]) ∧ Hid (Below w.heap.size w wr)) (fun v _ => s - (intOf v).toNat)
  case atStart => exact ⟨0, by omega, rfl, ((Blk.new w _ _).alloc _).drew, (Blk.new_at _ _ (by simp)).drew, ((((Below.refl _ _).alloc (Nat.le_refl _) _).alloc (by simp) _).drew : Below _ _ _)⟩
  case round =>
    obtain ⟨k, hk, rfl, H0, HP, HB⟩ := hrel
    have p0 := HP.out.cell (i := 0) rfl
    have p1 := HP.out.cell (i := 1) rfl
    have p2 := HP.out.cell (i := 2) rfl
    have pf := HP.out.free 0
    by_cases hlt : k < s
    · have d2 := (A.out.row.below HB.out hh).cell (i := k) (by rw [HN.out]; omega)
      have hk1 := G.out.at (k := k) (by rw [HN.out]; omega)
      have hall := G.out.all
      have HS := Lib.hid (lsum_take_succ L k (by rw [HN.out]; omega))
      generalize L[k]'(by rw [HN.out]; omega) = y at *
      go_wp2
      refine ⟨⟨k + 1, by omega, by push_cast; rfl, H0.out.other (a := ⟨w.heap.size + 1, 0, none⟩) (by simp) _, ?_, HB.out.setCell (p := ⟨w.heap.size + 1, 0, none⟩) (by simp) _⟩, by simp [intOf]; omega⟩
      rw [HS.out]
      exact HP.out.set 0 _
    · obtain rfl : k = s := by omega
      have q0 := H0.out.cell (i := 0) rfl
      have q1 := H0.out.cell (i := 1) rfl
      have q2 := H0.out.cell (i := 2) rfl
      have e0 := H0.out.free 0
      have e1 := H0.out.free 1
      have e2 := H0.out.free 2
      go_wp2
      have hb2 : Below w.heap.size w (((wr.setCell ⟨w.heap.size, 0, none⟩ (.int .u32 (lsum (L.take k)))).setCell ⟨w.heap.size, 1, none⟩ (.int .u32 x)).setCell ⟨w.heap.size, 2, none⟩ (.int .u32 (lsum L))) := ((HB.out.setCell (p := ⟨w.heap.size, 0, none⟩) (Nat.le_refl _) _).setCell (p := ⟨w.heap.size, 1, none⟩) (Nat.le_refl _) _).setCell (p := ⟨w.heap.size, 2, none⟩) (Nat.le_refl _) _
      have hx : L.getD k 0 = x := by rw [List.getD_eq_getElem?_getD, List.getElem?_eq_getElem (by rw [HN.out]; exact hs), HX.out]; rfl
      rw [hx]
      exact bodyPost_ret (v := .tuple #[part (lsum (L.take k)) x (lsum L), .int .i64 0]) (by simp [results, Try.results61, go_sem, part, q0, q1, q2, e0, e1, e2]) rfl ⟨rfl, hb2⟩
theorem Part_bad {w : World} {m h cap : Nat} {L : List Int} {f : Bool} (a : Is w m h cap L f) (s : Int) (hs : s < 0 ∨ (L.length : Int) ≤ s) :
    Calls Try.prog 61 #[.pointer (some ⟨m, 0, none⟩), .int .i64 s] w fun e w' => e = .returned (.tuple #[part 0 0 0, .int .i64 1]) ∧ Below w.heap.size w w' := by
  have d0 := a.blk.cell (i := 0) rfl
  have hm := a.blk.lt
  generalize L.length = n at *
  rcases hs with hs | hs
  · go_enter Try.func61, Try.ntmps61
    go_wp2
    exact bodyPost_ret (v := .tuple #[part 0 0 0, .int .i64 1]) (by simp [results, Try.results61, go_sem]; rfl) rfl ⟨rfl, ((Below.refl _ _).alloc (Nat.le_refl _) _ : Below _ _ _)⟩
  · have h0 : ¬ s < 0 := by omega
    go_enter Try.func61, Try.ntmps61
    go_wp2
    exact bodyPost_ret (v := .tuple #[part 0 0 0, .int .i64 1]) (by simp [results, Try.results61, go_sem]; rfl) rfl ⟨rfl, ((Below.refl _ _).alloc (Nat.le_refl _) _ : Below _ _ _)⟩
theorem find_cons (x : Int) (l : List Int) (a : Int) : find (x :: l) a = if a < x ∨ l = [] then 0 else find l (a - x) + 1 := by
  cases l with
  | nil => simp [find]
  | cons y l => by_cases h : a < x <;> simp [find, h]
/-- What is found from the k-th on. -/
theorem find_drop (L : List Int) (k : Nat) (hk : k < L.length) (a : Int) : find (L.drop k) a = if a < L[k] ∨ k + 1 = L.length then 0 else find (L.drop (k + 1)) (a - L[k]) + 1 := by
  rw [List.drop_eq_getElem_cons hk, find_cons]
  have : (L.drop (k + 1) = []) ↔ (k + 1 = L.length) := by rw [List.drop_eq_nil_iff]; omega
  simp only [this]
set_option maxHeartbeats 1000000 in
theorem Find_some {w : World} {m h cap : Nat} {L : List Int} {f : Bool} (a : Is w m h cap L f) (good : Good L) (x : Int) (h0 : 0 ≤ x) (h1 : x < 4294967296) :
    Calls Try.prog 69 #[.pointer (some ⟨m, 0, none⟩), .int .u32 x] w fun e w' => e = .returned (.int .i64 (find L x)) ∧ w' = w := by
  have d0 := a.blk.cell (i := 0) rfl
  have hl2 := good.len2
  have hl1 := good.len1
  have A := Lib.hid a
  have G := Lib.hid good
  obtain ⟨n, hn⟩ : ∃ n, L.length = n := ⟨_, rfl⟩
  have HN := Lib.hid hn
  rw [hn] at d0 hl1 hl2
  clear hn a good
  go_enter Try.func69, Try.ntmps69
  go_wp2
  go_loop [1, 14] (fun v i => ∃ (k : Nat) (y : Int), k ≤ n ∧ i = .int .i64 (k : Int) ∧ v = .int .u32 y ∧ 0 ≤ y ∧ y < 4294967296 ∧ (k < n → Hid (find L x = find (L.drop k) y + k)) ∧ (k = n → Hid (find L x = n - 1))) (fun _ i => n - (intOf i).toNat)
  case atStart => exact ⟨0, x, by omega, rfl, rfl, h0, h1, fun _ => by show _ = _; rw [List.drop_zero]; rfl, fun h => by omega⟩
  case round =>
    obtain ⟨k, y, hk, rfl, rfl, hy0, hy1, hf, hl⟩ := hrel
    by_cases hlt : k < n
    · have d2 := A.out.row.cell (i := k) (by rw [HN.out]; omega)
      have hp := (G.out.at (k := k) (by rw [HN.out]; omega)).1
      have hF := hf hlt
      have HD := Lib.hid (find_drop L k (by rw [HN.out]; omega) y)
      clear hf hl
      generalize L[k]'(by rw [HN.out]; omega) = z at *
      by_cases hc : y < z
      · have HE : Hid (find L x = k) := by
          show _ = _
          rw [hF.out, HD.out, if_pos (.inl hc)]; omega
        go_wp2
        go_ret
        rw [HE.out]
        exact ⟨rfl, rfl⟩
      · go_wp2
        go_round
        case rel =>
          refine ⟨k + 1, y - z, by omega, by push_cast; rfl, rfl, by omega, by omega, fun h2 => ?_, fun h2 => ?_⟩
          · show _ = _
            rw [hF.out, HD.out, if_neg (by rw [HN.out]; omega)]; omega
          · show _ = _
            rw [hF.out, HD.out, if_pos (.inr (by rw [HN.out]; omega))]; omega
        case measure => simp [intOf]; omega
    · obtain rfl : k = n := by omega
      have hF := hl rfl
      clear hf hl
      go_wp2
      go_ret
      rw [hF.out]
      exact ⟨by rw [Int.natCast_sub hl1]; rfl, rfl⟩
theorem Find_none (x : Value) (w : World) : Calls Try.prog 69 #[.pointer none, x] w fun e w' => e = .returned (.int .i64 0) ∧ w' = w := by
  go_enter Try.func69, Try.ntmps69
  go_wp2
  go_ret
  exact ⟨rfl, rfl⟩
theorem Learn_none (s : Value) (w : World) : Calls Try.prog 62 #[.pointer none, s] w fun e w' => e = .returned (.int .i64 1) ∧ w' = w := by
  go_enter Try.func62, Try.ntmps62
  go_wp2
  go_ret
  exact ⟨rfl, rfl⟩
theorem Learn_bad {w : World} {m h cap : Nat} {L : List Int} {f : Bool} (a : Is w m h cap L f) (s : Int) (hs : s < 0 ∨ (L.length : Int) ≤ s) :
    Calls Try.prog 62 #[.pointer (some ⟨m, 0, none⟩), .int .i64 s] w fun e w' => e = .returned (.int .i64 1) ∧ w' = w := by
  have d0 := a.blk.cell (i := 0) rfl
  generalize L.length = n at *
  rcases hs with hs | hs
  · go_enter Try.func62, Try.ntmps62
    go_wp2
    go_ret
    exact ⟨rfl, rfl⟩
  · have h0 : ¬ s < 0 := by omega
    go_enter Try.func62, Try.ntmps62
    go_wp2
    go_ret
    exact ⟨rfl, rfl⟩
theorem Learn_fixed {w : World} {m h cap : Nat} {L : List Int} (a : Is w m h cap L true) (s : Nat) (hs : s < L.length) :
    Calls Try.prog 62 #[.pointer (some ⟨m, 0, none⟩), .int .i64 s] w fun e w' => e = .returned (.int .i64 0) ∧ w' = w := by
  have d0 := a.blk.cell (i := 0) rfl
  have d2 := a.blk.cell (i := 2) rfl
  generalize L.length = n at *
  go_enter Try.func62, Try.ntmps62
  go_wp2
  go_ret
  exact ⟨rfl, rfl⟩
set_option maxHeartbeats 2000000 in
set_option maxRecDepth 100000 in
theorem Learn_yes {w : World} {m h cap : Nat} {L : List Int} (a : Is w m h cap L false) (good : Good L) (s : Nat) (hs : s < L.length) :
    Calls Try.prog 62 #[.pointer (some ⟨m, 0, none⟩), .int .i64 s] w fun e w' => e = .returned (.int .i64 0) ∧ Is w' m h cap (learn L s) false ∧ Only (fun k => k = m ∨ k = h) w w' := by
  have d0 := a.blk.cell (i := 0) rfl
  have d1 := a.blk.cell (i := 1) rfl
  have d2 := a.blk.cell (i := 2) rfl
  have d3 := a.row.cell hs
  have f1 := a.blk.free 1
  have f3 := a.row.free s
  have hne := a.ne
  have hl2 := good.len2
  have hall := good.all
  have hb := good.at hs
  have HS := Lib.hid (lsum_bump L s hs)
  have HBL := Lib.hid (bump_len L s)
  have HBP := Lib.hid (bump_pos L s good.pos hs)
  have HW := Lib.hid a
  have HBset : Hid (bump L s = L.set s (L[s] + 32)) := Lib.hid (by unfold bump; rw [List.getD_eq_getElem?_getD, List.getElem?_eq_getElem hs]; rfl)
  have HLn : Hid (learn L s = if lsum (bump L s) > 8192 then halve (bump L s) else bump L s) := Lib.hid rfl
  obtain ⟨B, hB⟩ : ∃ B, bump L s = B := ⟨_, rfl⟩
  rw [hB] at HS HBL HBP HBset HLn
  obtain ⟨n, hn⟩ : ∃ n, L.length = n := ⟨_, rfl⟩
  rw [hn] at d0 hs hl2 HBL
  have i0 : (s : Int) < n := by omega
  have HN := Lib.hid hn
  generalize L[s]'(by omega) = x at *
  clear hB hn
  obtain ⟨al, hal⟩ : ∃ al, lsum L = al := ⟨_, rfl⟩
  have HA := Lib.hid hal
  rw [hal] at d1 hall hb HS
  clear hal a good
  have b1 : decide ((s : Int) < 0) = false := decide_eq_false (by omega)
  have b2 : decide (n ≤ s) = false := decide_eq_false (by omega)
  go_enter Try.func62, Try.ntmps62
  have hrow : RowI (w.setCell ⟨h, s, none⟩ (.int .u32 (x + 32))) 22 .u32 h cap B := by
    rw [HBset.out]; exact HW.out.row.set s (x + 32)
  have hblk : Blk (w.setCell ⟨h, s, none⟩ (.int .u32 (x + 32))) m 107 #[.slice (some ⟨h, 0, none⟩) n cap, .int .u32 al, .bool false] := by
    have := HW.out.blk.other (a := ⟨h, s, none⟩) hne (.int .u32 (x + 32))
    rwa [HN.out, HA.out] at this
  have honly : Only (fun k => k = m ∨ k = h) w (w.setCell ⟨h, s, none⟩ (.int .u32 (x + 32))) := (Only.refl _ w).set (p := ⟨h, s, none⟩) (.inl (.inr rfl)) _
  have HR := Lib.hid hrow
  have HK := Lib.hid hblk
  have HO := Lib.hid honly
  clear hrow hblk honly
  by_cases hc : 8192 < al + 32
  · go_wp2
    go_loopw [55] (fun v wr => ∃ k : Nat, k ≤ n ∧ v = .int .i64 (k : Int) ∧ Hid (Blk wr m 107 #[.slice (some ⟨h, 0, none⟩) n cap, .int .u32 (lsum ((halve B).take k)), .bool false]) ∧ Hid (RowI wr 22 .u32 h cap (mix (halve B) B k)) ∧ Hid (Only (fun k => k = m ∨ k = h) w wr)) (fun v _ => n - (intOf v).toNat)
    case atStart => exact ⟨0, by omega, rfl, (HK.out.set 1 (.int .u32 (al + 32))).set 1 (.int .u32 0), by rw [mix_zero]; exact (HR.out.other (a := ⟨m, 1, none⟩) (Ne.symm hne) _).other (a := ⟨m, 1, none⟩) (Ne.symm hne) _, (HO.out.set (p := ⟨m, 1, none⟩) (.inl (.inl rfl)) _).set (p := ⟨m, 1, none⟩) (.inl (.inl rfl)) _⟩
    case round =>
      clear HR HK HO d0 d1 d2 d3 f1 f3
      obtain ⟨k, hk, rfl, HK, HR, HO⟩ := hrel
      by_cases hlt : k < n
      · have hlen : (halve B).length = B.length := halve_len B
        have e0 := HK.out.cell (i := 0) rfl
        have e1 := HK.out.cell (i := 1) rfl
        have g1 := HK.out.free 1
        have e3 := HR.out.cell (i := k) (by rw [mix_len _ _ _ hlen (by rw [hlen, HBL.out]; omega), HBL.out]; omega)
        rw [mix_get _ _ _ hlen (by rw [HBL.out]; omega)] at e3
        have g3 := HR.out.free k
        have HSum := Lib.hid (lsum_take_succ (halve B) k (by rw [hlen, HBL.out]; omega))
        have HM := Lib.hid (mix_set (halve B) B k hlen (by rw [hlen, HBL.out]; omega))
        have hg := halve_get B k (by rw [HBL.out]; omega) (h' := by rw [hlen, HBL.out]; omega)
        rw [hg] at HSum HM
        have hy1 := HBP.out _ (List.getElem_mem (show k < B.length by rw [HBL.out]; omega))
        have hs0 := lsum_take_le (halve B) (fun x hx => by have := halve_pos B HBP.out x hx; omega) k
        have hs1 := halve_sum B HBP.out
        have hy2 := lsum_take_le B (fun x hx => by have := HBP.out x hx; omega) (k + 1)
        have hy3 := lsum_take_le B (fun x hx => by have := HBP.out x hx; omega) k
        rw [lsum_take_succ B k (by rw [HBL.out]; omega)] at hy2
        rw [HBL.out] at hs1
        rw [HS.out] at hs1 hy2 hy3
        clear hg
        generalize B[k]'(by rw [HBL.out]; omega) = y at *
        have HK2 := Lib.hid (HK.out.other (a := ⟨h, k, none⟩) hne (.int .u32 ((y + 1) / 2)))
        have HR2 := Lib.hid (HR.out.set k ((y + 1) / 2))
        have HO2 := Lib.hid (HO.out.set (p := ⟨h, k, none⟩) (.inl (.inr rfl)) (.int .u32 ((y + 1) / 2)))
        rw [HM.out] at HR2
        go_wp2
        clear e0 e1 e3 g1 g3 HK HR HO
        generalize (wr.setCell ⟨h, k, none⟩ (.int .u32 ((y + 1) / 2))) = wm at *
        have e0 := HK2.out.cell (i := 0) rfl
        have e1 := HK2.out.cell (i := 1) rfl
        have g1 := HK2.out.free 1
        have e3 : wm.cell? ⟨h, k, none⟩ = some (.int .u32 ((y + 1) / 2)) := by
          have := HR2.out.cell (i := k) (by rw [mix_len _ _ _ hlen (by rw [hlen, HBL.out]; omega), HBL.out]; omega)
          rw [this]
          congr 2
          rw [← Option.some_inj, ← List.getElem?_eq_getElem]
          rw [← HM.out, List.getElem?_set_self (by rw [mix_len _ _ _ hlen (by rw [hlen, HBL.out]; omega), HBL.out]; omega)]
        go_still_tail 14, (by kernel_rfl)
        go_wp2
        go_roundw
        case rel =>
          refine ⟨k + 1, by omega, by push_cast; rfl, ?_, ?_, ?_⟩
          · rw [HSum.out]
            exact (HK2.out.set 1 _).drew
          · exact (HR2.out.other (a := ⟨m, 1, none⟩) (Ne.symm hne) _).drew
          · exact (HO2.out.set (p := ⟨m, 1, none⟩) (.inl (.inl rfl)) _).drew
        case measure => simp [intOf]; omega
      · obtain rfl : k = n := by omega
        have e0 := HK.out.cell (i := 0) rfl
        go_wp2
        go_ret
        have h8 : lsum B > 8192 := by rw [HS.out]; omega
        have hlen : (halve B).length = B.length := halve_len B
        rw [HLn.out, if_pos h8]
        refine ⟨rfl, ⟨?_, ?_, hne⟩, HO.out⟩
        · have := HK.out
          rw [List.take_of_length_le (by rw [hlen, HBL.out]; omega)] at this
          rw [hlen, HBL.out]; exact this
        · have := HR.out
          rw [← HBL.out, mix_all _ _ hlen] at this
          exact this
  · have h8 : ¬ (lsum B > 8192) := by rw [HS.out]; omega
    rw [if_neg h8] at HLn
    rw [HLn.out]
    have hfin : Is ((w.setCell ⟨h, s, none⟩ (.int .u32 (x + 32))).setCell ⟨m, 1, none⟩ (.int .u32 (al + 32))) m h cap B false :=
      ⟨by rw [HBL.out, HS.out]; exact HK.out.set 1 _, HR.out.other (a := ⟨m, 1, none⟩) (Ne.symm hne) _, hne⟩
    have HFin := Lib.hid hfin
    clear hfin h8
    go_wp2
    go_ret
    exact ⟨rfl, HFin.out, HO.out.set (p := ⟨m, 1, none⟩) (.inl (.inl rfl)) _⟩
theorem Learn_any {w : World} {m h cap : Nat} {L : List Int} {f : Bool} (a : Is w m h cap L f) (good : Good L) (s : Nat) (hs : s < L.length) :
    Calls Try.prog 62 #[.pointer (some ⟨m, 0, none⟩), .int .i64 s] w fun e w' => e = .returned (.int .i64 0) ∧ Is w' m h cap (next f L s) f ∧ Only (fun k => k = m ∨ k = h) w w' := by
  cases f with
  | true =>
    refine (Learn_fixed a s hs).mono ?_
    rintro e w' ⟨rfl, rfl⟩
    exact ⟨rfl, a, Only.refl _ _⟩
  | false => exact Learn_yes a good s hs
end Go.Proofs.Ytlbjoflmfboeeaa.Mdl
