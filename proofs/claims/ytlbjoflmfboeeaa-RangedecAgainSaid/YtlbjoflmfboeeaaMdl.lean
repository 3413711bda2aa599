/-
  The program's model, and the document's: what they hold, and the walks of their functions; no condition but those told.
-/
import Derived.Test.YtlbjoflmfboeeaaU2
import Derived.Test.YtlbjoflmfboeeaaUQ
set_option linter.unusedVariables false
set_option linter.unusedSimpArgs false
namespace Go.Proofs.Ytlbjoflmfboeeaa.Mdl
open Go.RowKit Go.Proofs.Ytlbjoflmfboeeaa Go.Proofs.YtlbjoflmfboeeaaW.PrintWords

/-- How often all come. -/
def lsum (L : List Int) : Int := L.sum
theorem lsum_append (a b : List Int) : lsum (a ++ b) = lsum a + lsum b := by unfold lsum; exact List.sum_append
theorem lsum_nil : lsum [] = 0 := rfl
theorem lsum_one (x : Int) : lsum [x] = x := by simp [lsum]
theorem lsum_take_succ (L : List Int) (k : Nat) (h : k < L.length) : lsum (L.take (k + 1)) = lsum (L.take k) + L[k] := by
  rw [List.take_succ_eq_append_getElem h, lsum_append, lsum_one]
theorem lsum_nonneg (L : List Int) (h : ∀ x ∈ L, 0 ≤ x) : 0 ≤ lsum L := by
  induction L with
  | nil => exact Int.le_refl 0
  | cons a l ih =>
    have h1 := ih fun x hx => h x (List.mem_cons_of_mem _ hx)
    have h2 := h a (List.mem_cons_self ..)
    have : lsum (a :: l) = a + lsum l := by simp [lsum]
    omega
theorem lsum_take_le (L : List Int) (h : ∀ x ∈ L, 0 ≤ x) (k : Nat) : 0 ≤ lsum (L.take k) ∧ lsum (L.take k) ≤ lsum L := by
  have h1 := lsum_nonneg (L.take k) fun x hx => h x (List.mem_of_mem_take hx)
  have h2 := lsum_nonneg (L.drop k) fun x hx => h x (List.mem_of_mem_drop hx)
  have h3 := lsum_append (L.take k) (L.drop k)
  rw [List.take_append_drop] at h3
  omega
/-- A list of how often symbols come, as it may be. -/
structure Good (L : List Int) : Prop where
  len1 : 1 ≤ L.length
  len2 : L.length ≤ 64
  pos : ∀ x ∈ L, 1 ≤ x
  all : lsum L ≤ 8192
theorem Good.at {L : List Int} (h : Good L) {k : Nat} (hk : k < L.length) : 1 ≤ L[k] ∧ lsum (L.take k) + L[k] ≤ lsum L ∧ 0 ≤ lsum (L.take k) := by
  have h0 : ∀ x ∈ L, 0 ≤ x := fun x hx => by have := h.pos x hx; omega
  have h1 := h.pos _ (List.getElem_mem hk)
  have h2 := lsum_take_le L h0 (k + 1)
  have h3 := lsum_take_le L h0 k
  rw [lsum_take_succ L k hk] at h2
  omega
theorem Good.nonneg {L : List Int} (h : Good L) : ∀ x ∈ L, 0 ≤ x := fun x hx => by have := h.pos x hx; omega
theorem Good.sum1 {L : List Int} (h : Good L) : 1 ≤ lsum L := by
  have := h.at (k := 0) h.len1
  omega
/-- A symbol came. -/
def bump (L : List Int) (s : Nat) : List Int := L.set s (L.getD s 0 + 32)
def halve (L : List Int) : List Int := L.map (fun x => (x + 1) / 2)
def learn (L : List Int) (s : Nat) : List Int := if lsum (bump L s) > 8192 then halve (bump L s) else bump L s
/-- What a model becomes. -/
def next (fixed : Bool) (L : List Int) (s : Nat) : List Int := if fixed = true then L else learn L s
theorem bump_len (L : List Int) (s : Nat) : (bump L s).length = L.length := by simp [bump]
theorem learn_len (L : List Int) (s : Nat) : (learn L s).length = L.length := by unfold learn; split <;> simp [halve, bump_len]
theorem next_len (f : Bool) (L : List Int) (s : Nat) : (next f L s).length = L.length := by unfold next; split; rfl; exact learn_len L s
theorem lsum_set (L : List Int) (s : Nat) (h : s < L.length) (v : Int) : lsum (L.set s v) = lsum L - L[s] + v := by
  induction L generalizing s with
  | nil => simp at h
  | cons a l ih =>
    cases s with
    | zero => simp [lsum]; omega
    | succ s =>
      have := ih s (by simpa using h)
      simp [lsum] at this ⊢
      omega
theorem lsum_bump (L : List Int) (s : Nat) (h : s < L.length) : lsum (bump L s) = lsum L + 32 := by
  unfold bump
  rw [lsum_set L s h, List.getD_eq_getElem?_getD, List.getElem?_eq_getElem h]
  simp; omega
theorem bump_pos (L : List Int) (s : Nat) (h : ∀ x ∈ L, 1 ≤ x) (hs : s < L.length) : ∀ x ∈ bump L s, 1 ≤ x := by
  intro x hx
  unfold bump at hx
  rcases List.mem_or_eq_of_mem_set hx with h1 | h1
  · exact h x h1
  · have := h _ (List.getElem_mem hs)
    rw [List.getD_eq_getElem?_getD, List.getElem?_eq_getElem hs] at h1
    simp at h1; omega
theorem halve_pos (L : List Int) (h : ∀ x ∈ L, 1 ≤ x) : ∀ x ∈ halve L, 1 ≤ x := by
  intro x hx
  obtain ⟨y, hy, rfl⟩ := List.mem_map.1 hx
  have := h y hy
  omega
theorem halve_sum (L : List Int) (h : ∀ x ∈ L, 1 ≤ x) : lsum (halve L) ≥ 0 ∧ 2 * lsum (halve L) ≤ lsum L + L.length := by
  induction L with
  | nil => simp [halve, lsum]
  | cons a l ih =>
    have h1 := ih fun x hx => h x (List.mem_cons_of_mem _ hx)
    have h2 := h a (List.mem_cons_self ..)
    have e1 : lsum (a :: l) = a + lsum l := by simp [lsum]
    have e2 : lsum (halve (a :: l)) = (a + 1) / 2 + lsum (halve l) := by simp [lsum, halve]
    rw [e1, e2]
    simp only [List.length_cons]
    omega
theorem Good.next {L : List Int} (h : Good L) (f : Bool) (s : Nat) (hs : s < L.length) : Good (next f L s) := by
  unfold Mdl.next
  split
  · exact h
  · refine ⟨by rw [learn_len]; exact h.len1, by rw [learn_len]; exact h.len2, ?_, ?_⟩
    · unfold learn
      split
      · exact halve_pos _ (bump_pos L s h.pos hs)
      · exact bump_pos L s h.pos hs
    · unfold learn
      have h1 := lsum_bump L s hs
      split
      · have := halve_sum _ (bump_pos L s h.pos hs)
        have h2 := h.len2
        have h3 := h.all
        rw [bump_len] at this
        omega
      · omega
/-- The first k of A, then B's. -/
def mix (A B : List Int) (k : Nat) : List Int := A.take k ++ B.drop k
theorem mix_len (A B : List Int) (k : Nat) (h : A.length = B.length) (hk : k ≤ A.length) : (mix A B k).length = B.length := by
  unfold mix; rw [List.length_append, List.length_take, List.length_drop]; omega
theorem mix_zero (A B : List Int) : mix A B 0 = B := by simp [mix]
theorem mix_all (A B : List Int) (h : A.length = B.length) : mix A B B.length = A := by
  unfold mix; rw [List.drop_length, List.append_nil, ← h, List.take_length]
theorem mix_get (A B : List Int) (k : Nat) (h : A.length = B.length) (hk : k < B.length) {h' : k < (mix A B k).length} : (mix A B k)[k] = B[k] := by
  have e : (mix A B k)[k]? = B[k]? := by
    unfold mix
    rw [List.getElem?_append_right (by rw [List.length_take]; omega), List.length_take, List.getElem?_drop, Nat.min_eq_left (by omega)]
    congr 1; omega
  rw [List.getElem?_eq_getElem h', List.getElem?_eq_getElem hk] at e
  exact Option.some.inj e
theorem mix_set (A B : List Int) (k : Nat) (h : A.length = B.length) (hk : k < A.length) : (mix A B k).set k A[k] = mix A B (k + 1) := by
  unfold mix
  rw [List.set_append_right _ _ (by rw [List.length_take]; omega), List.length_take, Nat.min_eq_left (by omega), Nat.sub_self, List.drop_eq_getElem_cons (show k < B.length by omega), List.set_cons_zero,
    List.take_succ_eq_append_getElem hk, List.append_assoc]
  rfl
theorem halve_len (L : List Int) : (halve L).length = L.length := by simp [halve]
theorem halve_get (L : List Int) (k : Nat) (h : k < L.length) {h' : k < (halve L).length} : (halve L)[k] = (L[k] + 1) / 2 := by simp [halve]
/-- The symbol in whose part a number is. -/
def find : List Int → Int → Nat
  | [], _ => 0
  | [_], _ => 0
  | x :: y :: l, at_ => if at_ < x then 0 else find (y :: l) (at_ - x) + 1
theorem find_lt (L : List Int) (a : Int) (h : 1 ≤ L.length) : find L a < L.length := by
  induction L generalizing a with
  | nil => simp at h
  | cons x l ih =>
    cases l with
    | nil => simp [find]
    | cons y l =>
      unfold find
      split
      · simp
      · have := ih (a - x) (by simp)
        simp at this ⊢; omega

/-- The program's model: block m holds it, block h how often. -/
structure Is (w : World) (m h cap : Nat) (L : List Int) (fixed : Bool) : Prop where
  blk : Blk w m 107 #[.slice (some ⟨h, 0, none⟩) L.length cap, .int .u32 (lsum L), .bool fixed]
  row : RowI w 22 .u32 h cap L
  ne : m ≠ h
/-- The document's. -/
structure IsR (w : World) (m h cap : Nat) (L : List Int) (fixed : Bool) : Prop where
  blk : Blk w m 116 #[.slice (some ⟨h, 0, none⟩) L.length cap, .bool fixed]
  row : RowI w 3 .i64 h cap L
  ne : m ≠ h
section
variable {w w' : World} {m h cap : Nat} {L : List Int} {f : Bool}
theorem Is.only {S : Nat → Prop} (a : Is w m h cap L f) (o : Only S w w') (h1 : ¬ S m) (h2 : ¬ S h) : Is w' m h cap L f :=
  ⟨a.blk.of_same (o.block m a.blk.lt h1), a.row.of_same (o.block h a.row.lt h2), a.ne⟩
theorem IsR.only {S : Nat → Prop} (a : IsR w m h cap L f) (o : Only S w w') (h1 : ¬ S m) (h2 : ¬ S h) : IsR w' m h cap L f :=
  ⟨a.blk.of_same (o.block m a.blk.lt h1), a.row.of_same (o.block h a.row.lt h2), a.ne⟩
theorem Is.drewN (a : Is w m h cap L f) (n : Nat) : Is (w.drewN n) m h cap L f := ⟨a.blk.drewN n, a.row.drewN n, a.ne⟩
theorem IsR.drewN (a : IsR w m h cap L f) (n : Nat) : IsR (w.drewN n) m h cap L f := ⟨a.blk.drewN n, a.row.drewN n, a.ne⟩
end
end Go.Proofs.Ytlbjoflmfboeeaa.Mdl
