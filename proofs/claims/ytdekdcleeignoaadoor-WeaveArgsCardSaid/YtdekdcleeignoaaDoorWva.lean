/-
  Weave: a title's block; the program's. No condition but those told.
-/
import Derived.Test.YtdekdcleeignoaaDoorWdt
import Derived.Test.YtdekdcleeignoaaDoorUB
import Derived.Test.YtdekdcleeignoaaDoorU5
set_option linter.unusedVariables false
set_option linter.unusedSimpArgs false
namespace Go.Proofs.YtdekdcleeignoaaDoor.Wv
open Go.RowKit Go.Proofs Go.Proofs.YtdekdcleeignoaaDoor Go.Proofs.YtdekdcleeignoaaDoor.Wd
theorem info_u8 : (Tryd.prog.info? 5).map (fun i => (i.zero, i.size, i.bytes)) = some (some (.int .u8 0), 1, 1) := by kernel_rfl
/-- The text of a title's block. -/
def textL (s : ByteArray) : List UInt8 := [83, 116, 114, 101, 97, 109, 84, 105, 116, 108, 101, 61, 39] ++ title s ++ [39, 59]
def blockL (s : ByteArray) : List Int := [((((textL s).length + 15) / 16 : Nat) : Int)] ++ numsS (textL s) ++ List.replicate (((textL s).length + 15) / 16 * 16 - (textL s).length) 0
theorem textL_le (s : ByteArray) : 15 ≤ (textL s).length ∧ (textL s).length ≤ 75 := by
  have := title_le s
  unfold textL
  simp only [List.length_append, List.length_cons, List.length_nil]
  omega
set_option maxHeartbeats 4000000 in
set_option maxRecDepth 100000 in
theorem Block_h {W w : World} {L : List Ast} (H : Hp W w L) (hT : Lib.Utf8Tabs 0 1 w) (s : ByteArray) (hs : s.size ≤ 100000) :
    Calls Tryd.prog 17 #[.string s] w fun e w' => ∃ v, e = .returned v ∧ Hp W w' (slA 5 .u8 v (blockL s) :: L) := by
  have TC := Lib.hid (Title_h s hs w hT)
  have HH := Lib.hid H
  have TL := textL_le s
  have TE : Hid ((⟨#[83, 116, 114, 101, 97, 109, 84, 105, 116, 108, 101, 61, 39]⟩ ++ ⟨(title s).toArray⟩ ++ ⟨#[39, 59]⟩ : ByteArray) = ⟨(textL s).toArray⟩) := Lib.hid (by
    unfold textL
    apply ByteArray.ext
    apply Array.ext'
    simp)
  have tl := title_le s
  have tn : (textL s).length = (title s).length + 15 := by unfold textL; simp
  obtain ⟨q, hq⟩ : ∃ q, ((textL s).length + 15) / 16 = q := ⟨_, rfl⟩
  have BL : Hid (blockL s = ([(q : Int)] ++ numsS (textL s)) ++ List.replicate (q * 16 - (textL s).length) 0) := Lib.hid (by unfold blockL; rw [hq])
  rw [tn] at hq BL
  have BN := Lib.hid tn
  generalize textL s = tt at *
  generalize title s = tx at *
  generalize blockL s = bb at *
  obtain ⟨l, hl⟩ : ∃ l, tx.length = l := ⟨_, rfl⟩
  have HL := Lib.hid hl
  rw [hl] at tl hq BL BN
  obtain ⟨t, ht⟩ : ∃ t, tt.length = t := ⟨_, rfl⟩
  have t15 : t = l + 15 := by rw [← ht, BN.out]
  rw [show l + 15 = t from t15.symm] at hq BL
  obtain ⟨m16, h16⟩ : ∃ m, t + 16 = m := ⟨_, rfl⟩
  obtain ⟨m15, h15⟩ : ∃ m, t + 15 = m := ⟨_, rfl⟩
  obtain ⟨q16, hq16⟩ : ∃ m, q * 16 = m := ⟨_, rfl⟩
  obtain ⟨z, hz⟩ : ∃ m, q16 - t = m := ⟨_, rfl⟩
  have W1 : IntKind.i64.wrap ((t : Int) + 16) = (m16 : Int) := by rw [show (t : Int) + 16 = (m16 : Int) by omega]; exact IntWalk.i64_in _ (by omega)
  have W2 : IntKind.i64.wrap ((m16 : Int) - 1) = (m15 : Int) := by rw [show (m16 : Int) - 1 = (m15 : Int) by omega]; exact IntWalk.i64_in _ (by omega)
  have Q1 : Int.tdiv (m15 : Int) 16 = (q : Int) := by rw [Int.tdiv_eq_ediv_of_nonneg (by omega)]; omega
  have W3 : IntKind.i64.wrap (q : Int) = (q : Int) := IntWalk.i64_in _ (by omega)
  have W4 : IntKind.u8.wrap (q : Int) = (q : Int) := by rw [IntKind.wrap_u8]; omega
  have W5 : IntKind.i64.wrap ((q : Int) * 16) = (q16 : Int) := by rw [show (q : Int) * 16 = (q16 : Int) by omega]; exact IntWalk.i64_in _ (by omega)
  have W6 : IntKind.i64.wrap ((q16 : Int) - (t : Int)) = (z : Int) := by rw [show (q16 : Int) - (t : Int) = (z : Int) by omega]; exact IntWalk.i64_in _ (by omega)
  have HTT := Lib.hid ht
  have tb : t ≤ 75 := by omega
  rw [hq16, hz] at BL
  have q5 : q ≤ 6 := by omega
  have z6 : z ≤ 100 := by omega
  clear hT H TL hq h16 h15 hq16 hz tn t15 ht
  go_enter Tryd.func17, Tryd.ntmps17
  go_wp2_with fail
  refine TC.out.mono ?_
  rintro e1 w1 ⟨rfl, b1⟩
  have H1 := Lib.hid (HH.out.keep b1)
  clear b1 HH TC
  go_upto_region 2 with fail
  rw [TE.out]
  have ts : (⟨tt.toArray⟩ : ByteArray).size = t := by show tt.toArray.size = t; rw [List.size_toArray]; exact HTT.out
  have TD : Hid ((⟨tt.toArray⟩ : ByteArray).data.toList = tt) := Lib.hid (by simp)
  generalize (⟨tt.toArray⟩ : ByteArray) = TS at *
  go_upto_region 3 with fail
  have H2 := Lib.hid (H1.out.one 5 .u8 (q : Int))
  go_wp2_with (first
    | (at_builtin; refine wpList_adds (.tmp 16) (.tmp 17) 33 9 5 rfl rfl Tryd.underlying33 Tryd.underlying9 info_u8 _ TS [(q : Int)] rfl rfl H2.out.sl (by rw [ts]; simp; omega) ?_
       intro v1 w2 hp
       rw [TD.out] at hp
       have h3 := H2.out.added hp (Nat.le_refl _)
       have H3 := Lib.hid h3
       clear hp h3)
    | (at_builtin; refine wpList_zeros (.tmp 18) (.tmp 23) 33 3 5 .u8 .i64 .i64 1 rfl rfl Tryd.underlying33 Tryd.underlying3 info_u8 _ ([(q : Int)] ++ numsS tt) z rfl rfl H3.out.sl (by rw [List.length_append, numsS_len, HTT.out]; simp; omega) (by rw [List.length_append, numsS_len, HTT.out]; simp; omega) ?_
       intro v2 w3 hp
       have h4 := H3.out.added hp (Nat.le_refl _)
       rw [← BL.out] at h4
       have H4 := Lib.hid h4
       clear hp h4))
  go_ret
  exact ⟨_, rfl, H4.out⟩
end Go.Proofs.YtdekdcleeignoaaDoor.Wv
