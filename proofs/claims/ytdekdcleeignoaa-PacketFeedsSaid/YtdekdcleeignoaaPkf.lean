/-
  Packets: bytes in any pieces. No condition but those told.
-/
import Derived.Test.YtdekdcleeignoaaPke
set_option linter.unusedVariables false
set_option linter.unusedSimpArgs false
namespace Go.Proofs.Ytdekdcleeignoaa.Pk
open Go.RowKit Go.Proofs.Ytdekdcleeignoaa Go.Proofs.YtdekdcleeignoaaW.PrintWords
/-- What Feed answers. -/
def FeedPost (W : World) (L : List Ast) (gr lost : Nat) (xs : List Int) (e : Ending) (w' : World) : Prop :=
  ∃ A1 n1 c1 v' qs, e = .returned v' ∧ qs.map (·.1) = (all xs).1 ∧
      Hp W w' (blkA gr 41 #[.slice A1 n1 c1, .int .i64 ((lost + (all xs).2.1 : Nat) : Int)] :: slA 5 .u8 (.slice A1 n1 c1) (all xs).2.2 :: vsA 25 4 v' qs.length (gcells qs) :: paysA qs :: L)
theorem feed_nil_post {W w' : World} {L : List Ast} {gr lost : Nat} {A1 : Option Addr} {n1 c1 : Nat} {e : Ending} (he : e = .returned (.slice none 0 0)) (h : Hp W w' (blkA gr 41 #[.slice A1 n1 c1, .int .i64 (lost : Int)] :: slA 5 .u8 (.slice A1 n1 c1) [] :: L)) : FeedPost W L gr lost [] e w' := by
  refine ⟨A1, n1, c1, _, [], he, rfl, ?_⟩
  rw [show lost + (all []).2.1 = lost from rfl]
  exact ((Hp_pays_nil h).vs_nil 25 4).up3.up3
theorem Sl_zero {w : World} {e : TypeId} {k : IntKind} {v : Value} (h : Sl w e k v []) : v = .slice none 0 0 ∨ ∃ g c, v = .slice (some ⟨g, 0, none⟩) 0 c := by
  rcases h with ⟨rfl, _⟩ | ⟨g, c, rfl, _⟩
  · exact .inl rfl
  · exact .inr ⟨g, c, rfl⟩
set_option maxHeartbeats 2000000 in
theorem Feed_zero {W w : World} {L : List Ast} {gr : Nat} {Ab : Option Addr} {nb cb : Nat} {lost : Nat} {A : Option Addr} {n0 c0 : Nat} (H : Hp W w (blkA gr 41 #[.slice Ab nb cb, .int .i64 (lost : Int)] :: slA 5 .u8 (.slice Ab nb cb) [] :: L)) (rd : Src w .u8 (.slice A n0 c0) []) :
    Calls Try.prog 13 #[.pointer (some ⟨gr, 0, none⟩), .slice A n0 c0] w fun e w' => FeedPost W L gr lost [] e w' := by
  have S0 := Lib.hid rd
  have H0 := Lib.hid H.swap
  have q0 := H.blk.cell (i := 0) rfl
  have q1 := H.blk.cell (i := 1) rfl
  have fz := fun i => H.blk.free i
  have zz : decide ((0 : Int) < 0) = false := by decide
  clear H rd
  go_enter Try.func13, Try.ntmps13
  go_wp2_with (at_builtin; refine wpList_add (.tmp 15) (.tmp 16) 23 5 .u8 0 1 rfl rfl Try.underlying23 info_u8 _ _ [] [] rfl rfl H0.out.sl S0.out (by simp) (by simp) ?_
               intro v1 w1 hp
               have h1 := (H0.out.added hp (Nat.le_refl _)).swap
               have h2 := Sl_zero h1.swap.sl
               have q0 := h1.blk.cell (i := 0) rfl
               have q1 := h1.blk.cell (i := 1) rfl
               have fz := fun i => h1.blk.free i
               have H1 := Lib.hid (h1.bset 0 v1)
               have V1 := Lib.hid h2
               obtain ⟨A2, n2, c2, e2⟩ : ∃ A2 n2 c2, v1 = .slice A2 n2 c2 := by
                 rcases h2 with h | ⟨g, c, h⟩
                 · exact ⟨_, _, _, h⟩
                 · exact ⟨_, _, _, h⟩
               subst e2
               clear hp h1 h2 S0 H0)
  have H2 : Hid (Hp W (w1.setCell ⟨gr, 0, none⟩ (.slice A2 n2 c2)) (blkA gr 41 #[.slice A2 n2 c2, .int .i64 (lost : Int)] :: slA 5 .u8 (.slice A2 n2 c2) [] :: L)) := H1
  clear q0 q1 fz H1
  generalize w1.setCell ⟨gr, 0, none⟩ (.slice A2 n2 c2) = wz at *
  go_loopw [5] (fun v wr => v = .slice none 0 0 ∧ wr = wz) (fun _ _ => 0)
  case atStart => exact ⟨rfl, rfl⟩
  case round =>
    obtain ⟨rfl, rfl⟩ := hrel
    have q0 := H2.out.blk.cell (i := 0) rfl
    have q1 := H2.out.blk.cell (i := 1) rfl
    have fz := fun i => H2.out.blk.free i
    rcases V1.out with h | ⟨g, c, h⟩
    · injection h with h1 h2 h3
      subst h1 h2 h3
      go_wp2_with fail
      refine (Clone_nil _).mono ?_
      rintro e9 w9 ⟨rfl, rfl⟩
      go_wp2_with fail
      go_ret
      exact feed_nil_post rfl (H2.out.bset 0 _)
    · injection h with h1 h2 h3
      subst h1 h2 h3
      have SC := Lib.hid (Src.of_sl H2.out.drop.sl)
      go_wp2_with fail
      refine (Clone_h H2.out SC.out rfl (by simp)).mono ?_
      rintro e9 w9 ⟨v9, rfl, h9⟩
      obtain ⟨A9, n9, c9, rfl⟩ := h9.sl.shape
      have H9 := Lib.hid h9.swap.up2.drop
      clear h9 q0 q1 fz
      have z0 := H9.out.blk.cell (i := 0) rfl
      have z1 := H9.out.blk.cell (i := 1) rfl
      have fz := fun i => H9.out.blk.free i
      go_wp2_with fail
      go_ret
      exact feed_nil_post rfl (H9.out.bset 0 _)
theorem Feed_any {W w : World} {L : List Ast} {gr : Nat} {Ab : Option Addr} {nb cb : Nat} {lost : Nat} {old bs : List Int} {A : Option Addr} {n0 c0 : Nat} (H : Hp W w (blkA gr 41 #[.slice Ab nb cb, .int .i64 (lost : Int)] :: slA 5 .u8 (.slice Ab nb cb) old :: L)) (rd : Src w .u8 (.slice A n0 c0) bs)
    (hb : Bytes (old ++ bs)) (hl : (old ++ bs).length ≤ 100000) (hlo : lost ≤ 100000) :
    Calls Try.prog 13 #[.pointer (some ⟨gr, 0, none⟩), .slice A n0 c0] w fun e w' => FeedPost W L gr lost (old ++ bs) e w' := by
  by_cases h : 0 < (old ++ bs).length
  · exact Feed_h H rd hb hl hlo h
  · have h2 := List.eq_nil_of_length_eq_zero (Nat.eq_zero_of_not_pos h)
    obtain ⟨rfl, rfl⟩ := List.append_eq_nil_iff.1 h2
    exact Feed_zero H rd
set_option maxHeartbeats 1000000 in
theorem feeds_out (a0 : Option Addr) (len0 cap0 : Nat) (a1 : Option Addr) (len1 cap1 : Nat) (W : World) (hb : 3000 < len0 ∨ 100 < len1) :
    Calls Try.prog 5 #[.slice a0 len0 cap0, .slice a1 len1 cap1] W fun e w' => e = .returned (.bool true) ∧ Below W.heap.size W w' := by
  rcases (show 3000 < len0 ∨ (¬ 3000 < len0 ∧ 100 < len1) by omega) with h | ⟨h, h2⟩
  · have k1 : decide ((3000 : Int) < (len0 : Int)) = true := decide_eq_true (by omega)
    clear hb h
    go_enter Try.func5, Try.ntmps5
    go_wp2_with fail
    refine (lives_h _).mono ?_
    rintro e1 w1 ⟨rfl, b1⟩
    have H1 : Hid (Hp W w1 []) := Lib.hid ((Hp.nil W).keep b1)
    clear b1
    go_wp2_with fail
    refine (lives_h _).mono ?_
    rintro e2 w2 ⟨rfl, b2⟩
    have H2 := Lib.hid (H1.out.keep b2)
    clear b2
    go_wp2_with fail
    go_ret
    exact ⟨rfl, H2.out.b⟩
  · have k1 : decide ((3000 : Int) < (len0 : Int)) = false := decide_eq_false (by omega)
    have k2 : decide ((100 : Int) < (len1 : Int)) = true := decide_eq_true (by omega)
    clear hb h h2
    go_enter Try.func5, Try.ntmps5
    go_wp2_with fail
    refine (lives_h _).mono ?_
    rintro e1 w1 ⟨rfl, b1⟩
    have H1 : Hid (Hp W w1 []) := Lib.hid ((Hp.nil W).keep b1)
    clear b1
    go_wp2_with fail
    refine (lives_h _).mono ?_
    rintro e2 w2 ⟨rfl, b2⟩
    have H2 := Lib.hid (H1.out.keep b2)
    clear b2
    go_wp2_with fail
    go_ret
    exact ⟨rfl, H2.out.b⟩
theorem Src.part {W w : World} {A : Option Addr} {bs : List Int} (h : Lies W A bs) (b : Below W.heap.size W w) (i m : Nat) (him : i + m ≤ bs.length) {A' : Option Addr} {c : Nat} (hA : 0 < m → ∀ g off, A = some ⟨g, off, none⟩ → A' = some ⟨g, off + i, none⟩) : Src w .u8 (.slice A' m c) ((bs.drop i).take m) := by
  have hl : ((bs.drop i).take m).length = m := by rw [List.length_take, List.length_drop]; omega
  rcases Nat.eq_zero_or_pos m with h0 | h0
  · subst h0
    exact ⟨A', c, rfl, fun h => by simp at h⟩
  · rcases h.below b with h1 | ⟨g, off, e, h1⟩
    · subst h1
      simp at him
      omega
    · have e2 := hA h0 g off e
      subst e2
      refine Lies.src ?_ hl
      refine .inr ⟨g, off + i, rfl, fun j hj => ?_⟩
      rw [hl] at hj
      rw [Nat.add_assoc, h1 (i + j) (by omega), List.getElem_take, List.getElem_drop]
theorem all_step (x y : List Int) : all (x ++ y) = ((all x).1 ++ (all ((all x).2.2 ++ y)).1, (all x).2.1 + (all ((all x).2.2 ++ y)).2.1, (all ((all x).2.2 ++ y)).2.2) := all_app x.length x y (Nat.le_refl _)
theorem all_sub : ∀ (n : Nat) (b : List Int), b.length ≤ n → (all b).2.2 <:+ b
  | n, [], _ => by rw [all_nil]; exact List.suffix_refl _
  | 0, x :: b, h => by simp at h
  | n + 1, x :: b, h => by
    have hb : x :: b ≠ [] := by simp
    have hl : (x :: b).length ≤ n + 1 := h
    generalize x :: b = B at hb hl
    rcases hp : parse B with ⟨o, k, e⟩
    cases o with
    | some p =>
      have := parse_some hp
      rw [all_some hp]
      exact (all_sub n (B.drop k) (by rw [List.length_drop]; omega)).trans (List.drop_suffix _ _)
    | none =>
      have := (parse_none hp).1
      subst this
      by_cases he : e = 2
      · subst he
        rw [all_cut hb hp]
        exact List.suffix_refl _
      · have hlt := List.length_pos_iff.2 hb
        rw [all_lost hb hp he]
        exact (all_sub n (B.drop 1) (by rw [List.length_drop]; omega)).trans (List.drop_suffix _ _)
theorem all_lostle : ∀ (n : Nat) (b : List Int), b.length ≤ n → (all b).2.1 ≤ n
  | n, [], _ => by rw [all_nil]; exact Nat.zero_le _
  | 0, x :: b, h => by simp at h
  | n + 1, x :: b, h => by
    have hb : x :: b ≠ [] := by simp
    have hl : (x :: b).length ≤ n + 1 := h
    generalize x :: b = B at hb hl
    rcases hp : parse B with ⟨o, k, e⟩
    cases o with
    | some p =>
      have := parse_some hp
      rw [all_some hp]
      have := all_lostle n (B.drop k) (by rw [List.length_drop]; omega)
      simp only
      omega
    | none =>
      have := (parse_none hp).1
      subst this
      by_cases he : e = 2
      · subst he
        rw [all_cut hb hp]
        exact Nat.zero_le _
      · have hlt := List.length_pos_iff.2 hb
        rw [all_lost hb hp he]
        have := all_lostle n (B.drop 1) (by rw [List.length_drop]; omega)
        simp only
        omega
theorem all_gotle (n : Nat) (b : List Int) (h : b.length ≤ n) : (all b).1.length ≤ n := by
  have H : ∀ (n : Nat) (b : List Int), b.length ≤ n → (all b).1.length ≤ n := by
    intro n
    induction n with
    | zero =>
      intro b h
      obtain rfl := List.eq_nil_of_length_eq_zero (Nat.le_zero.1 h)
      simp [all_nil]
    | succ n ih =>
      intro b h
      by_cases hb : b = []
      · subst hb; simp [all_nil]
      rcases hp : parse b with ⟨o, k, e⟩
      cases o with
      | some p =>
        have := parse_some hp
        rw [all_some hp]
        have := ih (b.drop k) (by rw [List.length_drop]; omega)
        simp only [List.length_cons]
        omega
      | none =>
        have := (parse_none hp).1
        subst this
        by_cases he : e = 2
        · subst he
          rw [all_cut hb hp]
          exact Nat.zero_le _
        · have hlt := List.length_pos_iff.2 hb
          rw [all_lost hb hp he]
          have := ih (b.drop 1) (by rw [List.length_drop]; omega)
          simp only
          omega
  exact H n b h
end Go.Proofs.Ytdekdcleeignoaa.Pk
