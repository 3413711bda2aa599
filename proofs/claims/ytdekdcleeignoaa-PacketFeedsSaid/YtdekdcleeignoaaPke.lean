/-
  Packets: all packets in bytes, by the document. No condition but those told.
-/
import Derived.Test.YtdekdcleeignoaaPkd
set_option linter.unusedVariables false
set_option linter.unusedSimpArgs false
namespace Go.Proofs.Ytdekdcleeignoaa.Pk
open Go.RowKit Go.Proofs.Ytdekdcleeignoaa Go.Proofs.YtdekdcleeignoaaW.PrintWords
theorem info_rpkt : (Try.prog.info? 33).map (fun i => (i.zero, i.size, i.bytes)) = some (some (.agg zcells), 4, 40) := by kernel_rfl
def slen : Value → Nat
  | .slice _ n _ => n
  | _ => 0
theorem Lies.down {w : World} {g off k : Nat} {xs : List Int} (h : Row8 w g off xs) : Lies w (some ⟨g, off + k, none⟩) (xs.drop k) := .inr ⟨g, off + k, rfl, fun j hj => by
  rw [List.length_drop] at hj
  rw [Nat.add_assoc, h (k + j) (by omega), List.getElem_drop]⟩
theorem Lies.below {w w' : World} {A : Option Addr} {xs : List Int} (h : Lies w A xs) (b : Below w.heap.size w w') : Lies w' A xs := h.imp id fun ⟨g, off, e, hr⟩ => ⟨g, off, e, hr.below b⟩
/-- What All answers. -/
def AllPost (W : World) (L : List Ast) (xs : List Int) (e : Ending) (w' : World) : Prop :=
  ∃ v qs, e = .returned (.tuple #[v, .int .i64 (all xs).2.1, .int .i64 (all xs).2.2.length]) ∧ qs.map (·.1) = (all xs).1 ∧
      (∀ q ∈ qs, Src W .u8 q.2 q.1.pay ∧ ∃ A n c, q.2 = .slice A n c) ∧ Hp W w' (vsA 33 4 v qs.length (gcells qs) :: L)
set_option maxHeartbeats 4000000 in
theorem rAll_h {W w : World} {L : List Ast} (H : Hp W w L) {A : Option Addr} {n c : Nat} {xs : List Int} (hs : Lies W A xs) (hn : xs.length = n) (hb : Bytes xs) (hl : n ≤ 100000) (hc : n ≤ c) :
    Calls Try.prog 14 #[.slice A n c] w fun e w' => AllPost W L xs e w' := by
  have HS := Lib.hid hs
  have XN := Lib.hid hn
  have BB := Lib.hid hb
  have H0 := Lib.hid (H.vs_nil 33 4)
  have w1 : IntKind.i64.wrap 1 = 1 := by decide
  clear hs hn hb H
  go_enter Try.func14, Try.ntmps14
  go_wp2_with fail
  go_loopw [0, 5, 6] (fun u v x wr => ∃ k m lo qs A1 A c2 cc, k + m = n ∧ m ≤ cc ∧ lo ≤ k ∧ qs.length ≤ k ∧ u = .slice A1 m cc ∧ v = .slice A qs.length c2 ∧ x = .int .i64 ((lo : Nat) : Int) ∧ Hid (Hp W wr (vsA 33 4 (.slice A qs.length c2) qs.length (gcells qs) :: L)) ∧
      Hid (Lies W A1 (xs.drop k)) ∧ Hid (∀ q ∈ qs, Src W .u8 q.2 q.1.pay ∧ ∃ A n c, q.2 = .slice A n c) ∧
      Hid ((all xs).1 = qs.map (·.1) ++ (all (xs.drop k)).1 ∧ (all xs).2.1 = lo + (all (xs.drop k)).2.1 ∧ (all xs).2.2 = (all (xs.drop k)).2.2)) (fun u _ _ _ => slen u)
  case atStart => exact ⟨0, n, 0, [], A, none, 0, c, by omega, hc, by omega, by simp, rfl, rfl, rfl, H0, HS, Lib.hid (fun q hq => by cases hq), Lib.hid ⟨rfl, by simp, rfl⟩⟩
  case round =>
    clear H0
    obtain ⟨k, m, lo, qs, A1, A2, c2, cc, hk, hcc, hlk, hql, rfl, rfl, rfl, HC, LI, SR, HA⟩ := hrel
    by_cases hm : m = 0
    · subst hm
      have AL := Lib.hid (show all (xs.drop k) = ([], 0, []) by rw [List.drop_eq_nil_of_le (by rw [XN.out]; omega)]; rfl)
      have zz : decide ((0 : Int) < 0) = false := by decide
      go_wp2_with fail
      obtain ⟨a1, a2, a3⟩ := HA.out
      rw [AL.out] at a1 a2 a3
      exact bodyPost_ret (v := .tuple #[.slice A2 qs.length c2, .int .i64 (lo : Int), .int .i64 0]) (by simp [results, Try.results14, go_sem]) rfl (by unfold AllPost; exact ⟨_, qs, by rw [a2, a3]; rfl, by rw [a1]; simp, SR.out, HC.out⟩)
    have kn : k < n := by omega
    have gp : decide ((0 : Int) < (m : Int)) = true := decide_eq_true (by omega)
    have gp2 : (0 : Int) < (m : Int) := by omega
    have LD : Hid ((xs.drop k).length = m) := Lib.hid (by rw [List.length_drop, XN.out]; omega)
    have PA := Lib.hid (rParse_h (LI.out.below HC.out.b) LD.out (fun x hx => BB.out x (List.mem_of_mem_drop hx)) (by omega) hcc)
    go_wp2_with fail
    refine PA.out.mono ?_
    intro e5 w5 hp
    unfold RPost at hp
    rcases hp with ⟨p, n1, A3, n3, c3, hps, rfl, hh, hb5⟩ | ⟨er, hps, rfl, hb5⟩
    · have H5 := Lib.hid (HC.out.keep hb5)
      obtain ⟨pn1, pn2, _⟩ := parse_some hps
      rw [LD.out] at pn2
      have AS := Lib.hid (all_some hps)
      have SP := Lib.hid (hh W LI.out)
      rcases LI.out with h0 | ⟨g, off, rfl, R8⟩
      · exfalso
        have := LD.out
        rw [h0] at this
        simp at this
        omega
      have LN : Hid (Lies W (some ⟨g, off + n1, none⟩) (xs.drop (k + n1))) := Lib.hid (by rw [← List.drop_drop]; exact Lies.down R8)
      clear hh PA hps HC hb5 R8
      obtain ⟨gq, hgq⟩ : ∃ gq, w5.heap.size = gq := ⟨_, rfl⟩
      have h6 := H5.out.alloc (.cells (pcells p (.slice A3 n3 c3)) 33)
      have H7 := Lib.hid (h6.alloc (.cells (pcells p (.slice A3 n3 c3)) 33))
      have SB := Lib.hid (SrcV.built (w5.alloc (.cells (pcells p (.slice A3 n3 c3)) 33)) 33 (pcells p (.slice A3 n3 c3)).toList 1 4 1 rfl)
      clear h6
      simp only [pcells] at H7 SB ⊢
      rw [show (w5.alloc (Obj.cells #[Value.int IntKind.u32 p.ep, Value.int IntKind.u32 p.nu, Value.bool p.wh, Value.slice A3 n3 c3] 33)).heap.size = gq + 1 by simp [hgq]] at SB
      go_wp2_with (at_builtin; refine wpList_addV (.tmp 27) (.tmp 29) 44 33 (.agg zcells) 4 40 rfl rfl Try.underlying44 info_rpkt rfl (by decide) _ _ qs.length 1 (gcells qs) (pcells p (.slice A3 n3 c3)).toList rfl rfl H7.out.vs SB.out (fun u hu => by simp [pcells] at hu; rcases hu with rfl | rfl | rfl | rfl <;> rfl) (by omega) (by omega) ?_
                   intro v1 w6 hp
                   have h8 := H7.out.addedV hp (Nat.le_refl _)
                   obtain ⟨A4, c4, rfl, _⟩ := ownsRow_form h8.vs
                   rw [show gcells qs ++ (pcells p (.slice A3 n3 c3)).toList = gcells (qs ++ [(p, .slice A3 n3 c3)]) by simp [gcells_app, gcells]] at h8
                   have H9 := Lib.hid h8
                   clear hp h8 H7 SB
                   have i1 : (n1 : Int) ≤ (m : Int) := by omega
                   have i2 : n1 ≤ cc := by omega)
      go_roundw
      case rel =>
        obtain ⟨a1, a2, a3⟩ := HA.out
        rw [AS.out, List.drop_drop] at a1 a2 a3
        exact ⟨k + n1, m - n1, lo, qs ++ [(p, .slice A3 n3 c3)], _, A4, c4, cc - n1, by omega, by omega, by omega, by simp; omega, rfl, by simp, rfl, Lib.hid (by simp only [List.length_append, List.length_singleton]; exact H9.out), Lib.hid (by
          split
          · exact .inl (List.drop_eq_nil_of_le (by rw [XN.out]; omega))
          · exact LN.out), Lib.hid (fun q hq => (List.mem_append.1 hq).elim (SR.out q) (fun h => by
          simp only [List.mem_singleton] at h
          subst h
          exact ⟨SP.out, _, _, _, rfl⟩)), Lib.hid ⟨by rw [a1]; simp, a2, a3⟩⟩
      case measure => simp only [slen]; omega
    · obtain ⟨_, er0, er2⟩ := parse_none hps
      have H5 := Lib.hid ((HC.out.keep hb5).alloc (.cells #[.int .u32 0, .int .u32 0, .bool false, .slice none 0 0] 33))
      have ne : xs.drop k ≠ [] := fun h => by have := LD.out; rw [h] at this; simp at this; omega
      clear HC PA hb5
      by_cases h2 : er = 2
      · subst h2
        have AL := Lib.hid (all_cut ne hps)
        simp only [zcells]
        go_wp2_with fail
        obtain ⟨a1, a2, a3⟩ := HA.out
        rw [AL.out] at a1 a2 a3
        exact bodyPost_ret (v := .tuple #[.slice A2 qs.length c2, .int .i64 (lo : Int), .int .i64 (m : Int)]) (by simp [results, Try.results14, go_sem]) rfl (by unfold AllPost; exact ⟨_, qs, by rw [a2, a3]; rw [LD.out]; rfl, by rw [a1]; simp, SR.out, H5.out⟩)
      · have AL := Lib.hid (all_lost ne hps h2)
        have e2 : (er == 2) = false := by rw [beq_eq_false_iff_ne]; exact h2
        have e3 : (er == 0) = false := by rw [beq_eq_false_iff_ne]; exact er0
        rcases LI.out with h0 | ⟨g, off, rfl, R8⟩
        · exact absurd h0 ne
        have LN : Hid (Lies W (some ⟨g, off + 1, none⟩) (xs.drop (k + 1))) := Lib.hid (by rw [← List.drop_drop]; exact Lies.down R8)
        have i1 : IntKind.i64.wrap ((lo : Int) + 1) = (lo : Int) + 1 := IntWalk.i64_in _ (by omega)
        have z1 : (1 : Int) ≤ (m : Int) := by omega
        have z2 : 1 ≤ cc := by omega
        have z3 : 1 ≤ m := by omega
        have i0 : wrap64 ((lo : Int) + 1) = (lo : Int) + 1 := by unfold wrap64; omega
        clear R8
        simp only [zcells]
        go_wp2_with fail
        clear i0 i1
        go_roundw
        case rel =>
          obtain ⟨a1, a2, a3⟩ := HA.out
          rw [AL.out, List.drop_drop] at a1 a2 a3
          exact ⟨k + 1, m - 1, lo + 1, qs, _, A2, c2, cc - 1, by omega, by omega, by omega, by omega, rfl, rfl, by go_num, H5, Lib.hid (by
            split
            · exact .inl (List.drop_eq_nil_of_le (by rw [XN.out]; omega))
            · exact LN.out), SR, Lib.hid ⟨a1, by rw [a2]; simp only; omega, a3⟩⟩
        case measure => simp only [slen]; omega
end Go.Proofs.Ytdekdcleeignoaa.Pk
