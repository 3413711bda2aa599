/-
  Packets: their bytes are made, on both sides; walks. No condition but those told.
-/
import Derived.Test.YtdekdcleeignoaaPkg
import Derived.Test.YtdekdcleeignoaaU8
import Derived.Test.YtdekdcleeignoaaU9
import Derived.Test.YtdekdcleeignoaaChq
set_option linter.unusedVariables false
set_option linter.unusedSimpArgs false
namespace Go.Proofs.Ytdekdcleeignoaa.Pk
open Go.RowKit Go.Proofs.Ytdekdcleeignoaa Go.Proofs.YtdekdcleeignoaaW.PrintWords

theorem info_u8 : (Try.prog.info? 5).map (fun i => (i.zero, i.size, i.bytes)) = some (some (.int .u8 0), 1, 1) := by kernel_rfl
theorem wI64 {x : Int} (h0 : -9223372036854775808 ≤ x) (h1 : x < 9223372036854775808) : IntKind.i64.wrap x = x := by rw [IntKind.wrap_i64]; omega
/-- A number, some bytes of it taken. -/
def dv (n : Int) : Nat → Int
  | 0 => n
  | k + 1 => dv n k / 256
theorem dv_bd {n : Int} (h : 0 ≤ n ∧ n < 4294967296) : ∀ k, 0 ≤ dv n k ∧ dv n k < 4294967296
  | 0 => h
  | k + 1 => by have := dv_bd h k; show 0 ≤ dv n k / 256 ∧ dv n k / 256 < 4294967296; omega
theorem dv_next (n : Int) : ∀ k, dv (n / 256) k = dv n (k + 1)
  | 0 => rfl
  | k + 1 => by show dv (n / 256) k / 256 = _; rw [dv_next n k]; rfl
theorem leN_snoc (n : Int) (k : Nat) : leN n (k + 1) = leN n k ++ [dv n k % 256] := by
  induction k generalizing n with
  | zero => rfl
  | succ k ih =>
    show n % 256 :: leN (n / 256) (k + 1) = (n % 256 :: leN (n / 256) k) ++ _
    rw [ih, dv_next]
    rfl
theorem C_of_src {w : World} {A : Option Addr} {n c : Nat} {xs : List Int} (h : Src w .u8 (.slice A n c) xs) (hm : xs.length ≤ maxLen) : (Kd.int .u8).C w A xs.length xs := by
  obtain ⟨A', c', e, hc⟩ := h
  injection e with e1 e2 e3
  subst e1
  refine ⟨rfl, by have : maxLen ≤ 9223372036854775807 := by decide
                  omega, fun h0 => ?_⟩
  obtain ⟨ad, e, hcell⟩ := hc h0
  refine ⟨ad, e, fun j p hj => ⟨[.int .u8 p], rfl, rfl, fun i u hu => ?_⟩⟩
  have hjl : j < xs.length := by
    rcases Nat.lt_or_ge j xs.length with h | h
    · exact h
    · rw [List.getElem?_eq_none h] at hj; cases hj
  rw [List.getElem?_eq_getElem hjl] at hj
  injection hj with hj
  match i, hu with
  | 0, hu =>
    simp at hu
    subst hu hj
    show w.cell? (ad.add (j * 1 + 0)) = _
    rw [Nat.mul_one, Nat.add_zero]
    exact hcell j hjl
theorem max_ge : 1000000 ≤ maxLen := by decide
theorem Of_h {w : World} {A : Option Addr} {c : Nat} {xs : List Int} (h : Src w .u8 (.slice A xs.length c) xs) (hb : Bytes xs) (hl : xs.length ≤ 100000) (hc : xs.length ≤ c) :
    Calls Try.prog 18 #[.slice A xs.length c] w fun e w' => e = .returned (.int .u32 (crcI xs)) ∧ Below w.heap.size w w' := by
  have hm := max_ge
  exact Chk.fOf_calls A c xs _ w (C_of_src h (by omega)) hc (by unfold Chk.fOf; rw [if_pos ⟨hb, by omega⟩]; rfl)
theorem rOf_h {w : World} {A : Option Addr} {c : Nat} {xs : List Int} (h : Src w .u8 (.slice A xs.length c) xs) (hb : Bytes xs) (hl : xs.length ≤ 100000) :
    Calls Try.prog 22 #[.slice A xs.length c] w fun e w' => e = .returned (.int .u32 (crcI xs)) ∧ w' = w := by
  have hm := max_ge
  have e := Chk.ints_of xs hb
  refine Chk.RefOf_calls (xs.map Int.toNat) (fun x hx => ?_) xs.length (by simp) (by omega) w A c (by rw [e]; exact C_of_src h (by omega))
  obtain ⟨y, hy, rfl⟩ := List.mem_map.1 hx
  have := hb y hy
  omega
set_option maxHeartbeats 1000000 in
set_option maxRecDepth 100000 in
theorem put_h {W w : World} {l : List Ast} {v : Value} {xs : List Int} (H : Hp W w (slA 5 .u8 v xs :: l)) (hl : xs.length ≤ 100000) (n : Int) (hn : 0 ≤ n ∧ n < 4294967296) (k : Nat) (hk : k ≤ 8) :
    Calls Try.prog 17 #[v, .int .u32 n, .int .i64 k] w fun e w' => ∃ v', e = .returned v' ∧ Hp W w' (slA 5 .u8 v' (xs ++ leN n k) :: l) := by
  have H0 : Hid (Hp W w (slA 5 .u8 v (xs ++ leN n 0) :: l)) := Lib.hid (by show Hp W w (slA 5 .u8 v (xs ++ []) :: l); rw [List.append_nil]; exact H)
  have XL := Lib.hid hl
  clear H hl
  go_enter Try.func17, Try.ntmps17
  go_wp2_with fail
  go_loopw [0, 1, 8] (fun u d i wr => ∃ j : Nat, j ≤ k ∧ i = .int .i64 (j : Int) ∧ d = .int .u32 (dv n j) ∧ Hid (Hp W wr (slA 5 .u8 u (xs ++ leN n j) :: l))) (fun _ _ i _ => k - (intOf i).toNat)
  case atStart => exact ⟨0, by omega, rfl, rfl, H0⟩
  case round =>
    clear H0
    obtain ⟨j, hj, rfl, rfl, H⟩ := hrel
    by_cases hlt : j < k
    · have ij : (j : Int) < (k : Int) := by omega
      have db := dv_bd hn j
      have ln : (xs ++ leN n j).length = xs.length + j := by rw [List.length_append, leN_len]
      have ap : (xs ++ leN n j) ++ [dv n j % 256] = xs ++ leN n (j + 1) := by rw [leN_snoc, List.append_assoc]
      have dn : dv n (j + 1) = dv n j / 256 := rfl
      obtain ⟨d, hd⟩ : ∃ d, dv n j = d := ⟨_, rfl⟩
      rw [hd] at db ap dn
      rw [hd]
      have LN := Lib.hid ln
      have AP := Lib.hid ap
      have DN := Lib.hid dn
      have xl := XL.out
      clear ln ap dn hd
      go_wp2_with (at_builtin; refine wpList_push (.tmp 10) (.tmp 13) 23 5 .u8 0 1 rfl rfl Try.underlying23 info_u8 u0 (xs ++ leN n j) (xs.length + j) (d % 256) ⟨wr.heap.size, 0, none⟩ (wr.heap.size + 1) rfl rfl (H.out.sl.alloc _) LN.out ((Blk.new wr _ _).cell rfl) (by simp) (by omega) (by omega) ?_
                   intro g1 cap1 w2 hp
                   have h1 := ((H.out.alloc _).push hp (by simp)).row_sl (n := xs.length + j + 1) (by rw [List.length_append, LN.out]; rfl)
                   rw [AP.out] at h1
                   have H2 := Lib.hid h1
                   clear hp h1)
      go_roundw
      case rel => exact ⟨j + 1, by omega, by go_num, by rw [DN.out], H2⟩
      case measure => simp [intOf]; omega
    · obtain rfl : j = k := by omega
      go_wp2_with fail
      go_ret
      exact ⟨_, rfl, H.out⟩
set_option maxHeartbeats 1000000 in
set_option maxRecDepth 100000 in
theorem Number_h {W w : World} {l : List Ast} (H : Hp W w l) (n : Int) (hn : 0 ≤ n ∧ n < 4294967296) (k : Nat) (hk : k ≤ 8) :
    Calls Try.prog 21 #[.int .u32 n, .int .i64 k] w fun e w' => ∃ v', e = .returned v' ∧ Hp W w' (slA 5 .u8 v' (leN n k) :: l) := by
  have H0 : Hid (Hp W w (slA 5 .u8 (.slice none 0 0) (leN n 0) :: l)) := Lib.hid (H.add_sl (Below.refl _ _) (Sl.nil w 5 .u8) (fun g hg => by cases hg))
  clear H
  go_enter Try.func21, Try.ntmps21
  go_wp2_with fail
  go_loopw [0, 5, 6] (fun d u i wr => ∃ j : Nat, j ≤ k ∧ i = .int .i64 (j : Int) ∧ d = .int .u32 (dv n j) ∧ Hid (Hp W wr (slA 5 .u8 u (leN n j) :: l))) (fun _ _ i _ => k - (intOf i).toNat)
  case atStart => exact ⟨0, by omega, rfl, rfl, H0⟩
  case round =>
    clear H0
    obtain ⟨j, hj, rfl, rfl, H⟩ := hrel
    by_cases hlt : j < k
    · have ij : (j : Int) < (k : Int) := by omega
      have db := dv_bd hn j
      have ln : (leN n j).length = j := leN_len _ _
      have ap : leN n j ++ [dv n j % 256] = leN n (j + 1) := (leN_snoc n j).symm
      have dn : dv n (j + 1) = dv n j / 256 := rfl
      obtain ⟨d, hd⟩ : ∃ d, dv n j = d := ⟨_, rfl⟩
      rw [hd] at db ap dn
      rw [hd]
      have t1 : Int.tmod d 256 = d % 256 := Int.tmod_eq_emod_of_nonneg db.1
      have t2 : Int.tdiv d 256 = d / 256 := Int.tdiv_eq_ediv_of_nonneg db.1
      have t3 : (d % 256) % 256 = d % 256 := by omega
      have t4 : (d / 256) % 4294967296 = d / 256 := by omega
      have t5 : (d % 256) % 4294967296 = d % 256 := by omega
      have LN := Lib.hid ln
      have AP := Lib.hid ap
      have DN := Lib.hid dn
      clear ln ap dn hd
      go_wp2_with (at_builtin; refine wpList_push (.tmp 12) (.tmp 16) 23 5 .u8 0 1 rfl rfl Try.underlying23 info_u8 u5 (leN n j) j (d % 256) ⟨wr.heap.size, 0, none⟩ (wr.heap.size + 1) rfl rfl (H.out.sl.alloc _) LN.out ((Blk.new wr _ _).cell (by simp [t3])) (by simp) (by omega) (by omega) ?_
                   intro g1 cap1 w2 hp
                   have h1 := ((H.out.alloc _).push hp (by simp)).row_sl (n := j + 1) (by rw [List.length_append, LN.out]; rfl)
                   rw [AP.out] at h1
                   have H2 := Lib.hid h1
                   clear hp h1)
      go_roundw
      case rel => exact ⟨j + 1, by omega, by go_num, by rw [DN.out], H2⟩
      case measure => simp [intOf]; omega
    · obtain rfl : j = k := by omega
      go_wp2_with fail
      go_ret
      exact ⟨_, rfl, H.out⟩
end Go.Proofs.Ytdekdcleeignoaa.Pk
