/-
  Words: all that was made, as a list of objects that lie apart. Plain theorems; no condition.
-/
import Derived.Test.YtdekdcleeignoaaDoorU3
import Derived.Laws.BytesArg
set_option linter.unusedVariables false
namespace Go.Proofs.YtdekdcleeignoaaDoor
open Go.RowKit

theorem Sep.perm {w : World} {B : Nat} {l l' : List Ast} (p : l.Perm l') : ∀ U, Sep w B U l → Sep w B U l' := by
  induction p with
  | nil => exact fun _ h => h
  | cons A _ ih => exact fun U h => Sep.cons ih h
  | swap A B l => exact fun U h => h.swap
  | trans _ _ h1 h2 => exact fun U h => h2 U (h1 U h)
/-- Two objects as one. -/
def Ast.both (A1 A2 : Ast) : Ast where
  holds w F := ∃ F1 F2, A1.holds w F1 ∧ A2.holds w F2 ∧ (∀ k, F2 k → ¬ F1 k) ∧ F = fun k => F1 k ∨ F2 k
  lt := fun {w F k} ⟨F1, F2, h1, h2, _, e⟩ hk => by
    subst e
    rcases hk with hk | hk
    · exact A1.lt h1 hk
    · exact A2.lt h2 hk
  move := fun {w w' F} ⟨F1, F2, h1, h2, h3, e⟩ hs => by
    subst e
    exact ⟨F1, F2, A1.move h1 fun k hk => hs k (.inl hk), A2.move h2 fun k hk => hs k (.inr hk), h3, rfl⟩
theorem Sep.both {w : World} {B : Nat} {U : Nat → Prop} {A1 A2 : Ast} {l : List Ast} (h : Sep w B U (A1 :: A2 :: l)) : Sep w B U (Ast.both A1 A2 :: l) := by
  obtain ⟨F1, h1, g1, F2, h2, g2, h3⟩ := h
  refine ⟨_, ⟨F1, F2, h1, h2, fun k hk e => (g2 k hk).2 (.inr e), rfl⟩, fun k hk => ?_, Sep.weak (fun k hk => ?_) h3⟩
  · rcases hk with hk | hk
    · exact g1 k hk
    · exact ⟨(g2 k hk).1, fun e => (g2 k hk).2 (.inl e)⟩
  · rcases hk with hk | hk | hk
    · exact .inl (.inl hk)
    · exact .inl (.inr hk)
    · exact .inr hk
theorem Sep.apart {w : World} {B : Nat} {U : Nat → Prop} {A1 A2 : Ast} {l : List Ast} (h : Sep w B U (Ast.both A1 A2 :: l)) : Sep w B U (A1 :: A2 :: l) := by
  obtain ⟨F, ⟨F1, F2, h1, h2, h3, rfl⟩, g, h4⟩ := h
  refine ⟨F1, h1, fun k hk => g k (.inl hk), F2, h2, fun k hk => ⟨(g k (.inr hk)).1, fun e => ?_⟩, Sep.weak (fun k hk => ?_) h4⟩
  · rcases e with e | e
    · exact (g k (.inr hk)).2 e
    · exact h3 k hk e
  · rcases hk with (hk | hk) | hk
    · exact .inl hk
    · exact .inr (.inl hk)
    · exact .inr (.inr hk)
theorem front_perm : ∀ (l : List Ast) (i : Nat) (hi : i < l.length), l.Perm (l[i] :: l.eraseIdx i)
  | A :: l, 0, _ => List.Perm.refl _
  | A :: l, i + 1, hi => ((front_perm l i (by simpa using hi)).cons A).trans (List.Perm.swap _ _ _)
/-- What was there at first is as it was; these objects, made since, lie apart. -/
def Hp (W w : World) (l : List Ast) : Prop := Below W.heap.size W w ∧ Sep w W.heap.size Em l
section
variable {W w w' : World} {A A' A1 A2 A1' A2' : Ast} {l l' : List Ast}
theorem Hp.nil (W : World) : Hp W W [] := ⟨Below.refl _ _, trivial⟩
theorem Hp.b (h : Hp W w l) : Below W.heap.size W w := h.1
theorem Hp.size (h : Hp W w l) : W.heap.size ≤ w.heap.size := h.1.size
theorem Hp.perm (h : Hp W w l) (p : l.Perm l') : Hp W w l' := ⟨h.1, Sep.perm p _ h.2⟩
theorem Hp.front (h : Hp W w l) (i : Nat) (hi : i < l.length) : Hp W w (l[i] :: l.eraseIdx i) := h.perm (front_perm l i hi)
theorem Hp.back (h : Hp W w (A :: l)) (i : Nat) (hi : i ≤ l.length) : Hp W w (l.insertIdx i A) := h.perm (List.perm_insertIdx A l hi).symm
theorem Hp.swap (h : Hp W w (A1 :: A2 :: l)) : Hp W w (A2 :: A1 :: l) := ⟨h.1, h.2.swap⟩
theorem Hp.up1 {B0 C : Ast} (h : Hp W w (B0 :: C :: l)) : Hp W w (C :: B0 :: l) := h.front 1 (by simp)
theorem Hp.down1 {B0 C : Ast} (h : Hp W w (C :: B0 :: l)) : Hp W w (B0 :: C :: l) := h.back 1 (by simp)
theorem Hp.up2 {B0 B1 C : Ast} (h : Hp W w (B0 :: B1 :: C :: l)) : Hp W w (C :: B0 :: B1 :: l) := h.front 2 (by simp)
theorem Hp.down2 {B0 B1 C : Ast} (h : Hp W w (C :: B0 :: B1 :: l)) : Hp W w (B0 :: B1 :: C :: l) := h.back 2 (by simp)
theorem Hp.up3 {B0 B1 B2 C : Ast} (h : Hp W w (B0 :: B1 :: B2 :: C :: l)) : Hp W w (C :: B0 :: B1 :: B2 :: l) := h.front 3 (by simp)
theorem Hp.down3 {B0 B1 B2 C : Ast} (h : Hp W w (C :: B0 :: B1 :: B2 :: l)) : Hp W w (B0 :: B1 :: B2 :: C :: l) := h.back 3 (by simp)
theorem Hp.up4 {B0 B1 B2 B3 C : Ast} (h : Hp W w (B0 :: B1 :: B2 :: B3 :: C :: l)) : Hp W w (C :: B0 :: B1 :: B2 :: B3 :: l) := h.front 4 (by simp)
theorem Hp.down4 {B0 B1 B2 B3 C : Ast} (h : Hp W w (C :: B0 :: B1 :: B2 :: B3 :: l)) : Hp W w (B0 :: B1 :: B2 :: B3 :: C :: l) := h.back 4 (by simp)
theorem Hp.up5 {B0 B1 B2 B3 B4 C : Ast} (h : Hp W w (B0 :: B1 :: B2 :: B3 :: B4 :: C :: l)) : Hp W w (C :: B0 :: B1 :: B2 :: B3 :: B4 :: l) := h.front 5 (by simp)
theorem Hp.down5 {B0 B1 B2 B3 B4 C : Ast} (h : Hp W w (C :: B0 :: B1 :: B2 :: B3 :: B4 :: l)) : Hp W w (B0 :: B1 :: B2 :: B3 :: B4 :: C :: l) := h.back 5 (by simp)
theorem Hp.up6 {B0 B1 B2 B3 B4 B5 C : Ast} (h : Hp W w (B0 :: B1 :: B2 :: B3 :: B4 :: B5 :: C :: l)) : Hp W w (C :: B0 :: B1 :: B2 :: B3 :: B4 :: B5 :: l) := h.front 6 (by simp)
theorem Hp.down6 {B0 B1 B2 B3 B4 B5 C : Ast} (h : Hp W w (C :: B0 :: B1 :: B2 :: B3 :: B4 :: B5 :: l)) : Hp W w (B0 :: B1 :: B2 :: B3 :: B4 :: B5 :: C :: l) := h.back 6 (by simp)
theorem Hp.up7 {B0 B1 B2 B3 B4 B5 B6 C : Ast} (h : Hp W w (B0 :: B1 :: B2 :: B3 :: B4 :: B5 :: B6 :: C :: l)) : Hp W w (C :: B0 :: B1 :: B2 :: B3 :: B4 :: B5 :: B6 :: l) := h.front 7 (by simp)
theorem Hp.down7 {B0 B1 B2 B3 B4 B5 B6 C : Ast} (h : Hp W w (C :: B0 :: B1 :: B2 :: B3 :: B4 :: B5 :: B6 :: l)) : Hp W w (B0 :: B1 :: B2 :: B3 :: B4 :: B5 :: B6 :: C :: l) := h.back 7 (by simp)
theorem Hp.up8 {B0 B1 B2 B3 B4 B5 B6 B7 C : Ast} (h : Hp W w (B0 :: B1 :: B2 :: B3 :: B4 :: B5 :: B6 :: B7 :: C :: l)) : Hp W w (C :: B0 :: B1 :: B2 :: B3 :: B4 :: B5 :: B6 :: B7 :: l) := h.front 8 (by simp)
theorem Hp.down8 {B0 B1 B2 B3 B4 B5 B6 B7 C : Ast} (h : Hp W w (C :: B0 :: B1 :: B2 :: B3 :: B4 :: B5 :: B6 :: B7 :: l)) : Hp W w (B0 :: B1 :: B2 :: B3 :: B4 :: B5 :: B6 :: B7 :: C :: l) := h.back 8 (by simp)
theorem Hp.up9 {B0 B1 B2 B3 B4 B5 B6 B7 B8 C : Ast} (h : Hp W w (B0 :: B1 :: B2 :: B3 :: B4 :: B5 :: B6 :: B7 :: B8 :: C :: l)) : Hp W w (C :: B0 :: B1 :: B2 :: B3 :: B4 :: B5 :: B6 :: B7 :: B8 :: l) := h.front 9 (by simp)
theorem Hp.down9 {B0 B1 B2 B3 B4 B5 B6 B7 B8 C : Ast} (h : Hp W w (C :: B0 :: B1 :: B2 :: B3 :: B4 :: B5 :: B6 :: B7 :: B8 :: l)) : Hp W w (B0 :: B1 :: B2 :: B3 :: B4 :: B5 :: B6 :: B7 :: B8 :: C :: l) := h.back 9 (by simp)
theorem Hp.drop (h : Hp W w (A :: l)) : Hp W w l := ⟨h.1, h.2.tail⟩
/-- Some of the objects, each told by its place among those that are left. -/
def pick : List Nat → List Ast → List Ast
  | [], _ => []
  | i :: is, l => match l[i]? with
    | some A => A :: pick is (l.eraseIdx i)
    | none => []
theorem Sep.pick {w : World} {B : Nat} (is : List Nat) : ∀ (l : List Ast) (U : Nat → Prop), Sep w B U l → Sep w B U (pick is l) := by
  induction is with
  | nil => intro l U h; exact trivial
  | cons i is ih =>
    intro l U h
    unfold Go.Proofs.YtdekdcleeignoaaDoor.pick
    by_cases hi : i < l.length
    · rw [List.getElem?_eq_getElem hi]
      exact Sep.cons (fun U => ih _ U) (Sep.perm (front_perm l i hi) U h)
    · rw [List.getElem?_eq_none (by omega)]
      exact trivial
theorem Hp.pk (h : Hp W w l) (is : List Nat) : Hp W w (pick is l) := ⟨h.1, Sep.pick is l _ h.2⟩
/-- What turns nothing that was there. -/
theorem Hp.keep (h : Hp W w l) (b : Below w.heap.size w w') : Hp W w' l := ⟨h.1.trans (b.mono h.1.size), Sep.only (Only.of_below b : Only (fun _ => False) w w') (fun _ e => e.elim) h.2⟩
theorem Hp.drewN (h : Hp W w l) (n : Nat) : Hp W (w.drewN n) l := h.keep ⟨rfl, rfl, rfl, Nat.le_refl _, fun _ _ => rfl⟩
theorem Hp.drew (h : Hp W w l) : Hp W w.drew l := h.drewN 1
theorem Hp.alloc (h : Hp W w l) (o : Obj) : Hp W (w.alloc o) l := h.keep ((Below.refl _ _).alloc (Nat.le_refl _) o)
theorem Hp.open1 (h : Hp W w (A :: l)) : ∃ F, A.holds w F ∧ (∀ k, F k → W.heap.size ≤ k ∧ k < w.heap.size) ∧
    ∀ {w' : World} {A' : Ast} {F' : Nat → Prop}, Only F w w' → A'.holds w' F' → (∀ k, F' k → F k ∨ w.heap.size ≤ k) → Hp W w' (A' :: l) := by
  obtain ⟨b, F, h1, h2, h3⟩ := h
  refine ⟨F, h1, fun k hk => ⟨(h2 k hk).1, A.lt h1 hk⟩, fun ho h' hs => ⟨b.trans (ho.below b.size fun k hk => (h2 k hk).1), ?_⟩⟩
  exact Sep.turn h2 h3 (fun _ e => e.elim) b.size ho h' hs
/-- Two objects, both turned. -/
theorem Hp.open2 (h : Hp W w (A1 :: A2 :: l)) : ∃ F1 F2, A1.holds w F1 ∧ A2.holds w F2 ∧ (∀ k, F1 k → W.heap.size ≤ k ∧ k < w.heap.size) ∧ (∀ k, F2 k → W.heap.size ≤ k ∧ k < w.heap.size) ∧ (∀ k, F2 k → ¬ F1 k) ∧
    ∀ {w' : World} {A1' A2' : Ast} {F1' F2' : Nat → Prop}, Only (fun k => F1 k ∨ F2 k) w w' → A1'.holds w' F1' → A2'.holds w' F2' → (∀ k, F1' k → F1 k ∨ w.heap.size ≤ k) → (∀ k, F2' k → F2 k ∨ w.heap.size ≤ k) → (∀ k, F2' k → ¬ F1' k) → Hp W w' (A1' :: A2' :: l) := by
  have hb : Hp W w (Ast.both A1 A2 :: l) := ⟨h.1, h.2.both⟩
  obtain ⟨F, ⟨F1, F2, h1, h2, h3, rfl⟩, h4, K⟩ := hb.open1
  refine ⟨F1, F2, h1, h2, fun k hk => h4 k (.inl hk), fun k hk => h4 k (.inr hk), h3, fun {w' A1' A2' F1' F2'} ho k1 k2 s1 s2 d => ?_⟩
  have := K (A' := Ast.both A1' A2') ho ⟨F1', F2', k1, k2, d, rfl⟩ (fun k hk => by
    rcases hk with hk | hk
    · exact (s1 k hk).imp .inl id
    · exact (s2 k hk).imp .inr id)
  exact ⟨this.1, this.2.apart⟩
theorem Hp.apart (h : Hp W w (Ast.both A1 A2 :: l)) : Hp W w (A1 :: A2 :: l) := ⟨h.1, h.2.apart⟩
theorem Hp.both (h : Hp W w (A1 :: A2 :: l)) : Hp W w (Ast.both A1 A2 :: l) := ⟨h.1, h.2.both⟩
/-- Two objects, the second one only read. -/
theorem Hp.open1r (h : Hp W w (A1 :: A2 :: l)) : ∃ F1 F2, A1.holds w F1 ∧ A2.holds w F2 ∧ (∀ k, F1 k → W.heap.size ≤ k ∧ k < w.heap.size) ∧ (∀ k, F2 k → W.heap.size ≤ k ∧ k < w.heap.size) ∧ (∀ k, F2 k → ¬ F1 k) ∧
    ∀ {w' : World} {A1' : Ast} {F1' : Nat → Prop}, Only F1 w w' → A1'.holds w' F1' → (∀ k, F1' k → F1 k ∨ w.heap.size ≤ k) → Hp W w' (A1' :: A2 :: l) := by
  obtain ⟨F1, F2, h1, h2, g1, g2, h3, K⟩ := h.open2
  refine ⟨F1, F2, h1, h2, g1, g2, h3, fun {w' A1' F1'} ho k1 s1 => K (ho.mono fun k hk => .inl hk) k1 (A2.move h2 fun k hk => ho.block k (g2 k hk).2 (h3 k hk)) s1 (fun k hk => .inl hk) (fun k hk e => ?_)⟩
  rcases s1 k e with e | e
  · exact h3 k hk e
  · have := (g2 k hk).2; omega
/-- Three objects, the second and the third one only read. -/
theorem Hp.open1rr {A3 : Ast} (h : Hp W w (A1 :: A2 :: A3 :: l)) : ∃ F1 F2 F3, A1.holds w F1 ∧ A2.holds w F2 ∧ A3.holds w F3 ∧ (∀ k, F1 k → W.heap.size ≤ k ∧ k < w.heap.size) ∧ (∀ k, F2 k → W.heap.size ≤ k ∧ k < w.heap.size) ∧ (∀ k, F3 k → W.heap.size ≤ k ∧ k < w.heap.size) ∧ (∀ k, F2 k → ¬ F1 k) ∧ (∀ k, F3 k → ¬ F1 k) ∧ (∀ k, F3 k → ¬ F2 k) ∧
    ∀ {w' : World} {A1' : Ast} {F1' : Nat → Prop}, Only F1 w w' → A1'.holds w' F1' → (∀ k, F1' k → F1 k ∨ w.heap.size ≤ k) → Hp W w' (A1' :: A2 :: A3 :: l) := by
  have hb : Hp W w (A1 :: Ast.both A2 A3 :: l) := ⟨h.1, Sep.cons (fun _ => Sep.both) h.2⟩
  obtain ⟨F1, F, h1, ⟨F2, F3, h2, h3, d, rfl⟩, g1, g2, ne, K⟩ := hb.open1r
  refine ⟨F1, F2, F3, h1, h2, h3, g1, fun k hk => g2 k (.inl hk), fun k hk => g2 k (.inr hk), fun k hk => ne k (.inl hk), fun k hk => ne k (.inr hk), d, fun {w' A1' F1'} ho k1 s1 => ?_⟩
  have := K ho k1 s1
  exact ⟨this.1, Sep.cons (fun _ => Sep.apart) this.2⟩
/-- A new object. -/
theorem Hp.new {F' : Nat → Prop} (h : Hp W w l) (b : Below w.heap.size w w') (h' : A'.holds w' F') (hn : ∀ k, F' k → w.heap.size ≤ k) : Hp W w' (A' :: l) :=
  ⟨h.1.trans (b.mono h.1.size), Sep.new h.2 h.1.size b h' hn⟩
/-- An object is turned, whatever it is. -/
theorem Hp.turn (h : Hp W w (A :: l)) (k : ∀ F, A.holds w F → Only F w w' ∧ ∃ F', A'.holds w' F' ∧ ∀ i, F' i → F i ∨ w.heap.size ≤ i) : Hp W w' (A' :: l) := by
  obtain ⟨F, h1, _, K⟩ := h.open1
  obtain ⟨h2, F', h3, h4⟩ := k F h1
  exact K h2 h3 h4
/-- The same object, told otherwise. -/
theorem Hp.say (h : Hp W w (A :: l)) (k : ∀ F, A.holds w F → A'.holds w F) : Hp W w (A' :: l) := h.turn fun F hF => ⟨Only.refl _ _, F, k F hF, fun _ h => .inl h⟩
end
/-- A row of numbers. -/
def rowA (t : TypeId) (k : IntKind) (g cap : Nat) (xs : List Int) : Ast where
  holds w F := RowI w t k g cap xs ∧ F = fun i => i = g
  lt := fun ⟨h, e⟩ hk => by subst e; subst hk; exact h.lt
  move := fun ⟨h, e⟩ hs => by subst e; exact ⟨h.of_same (hs _ rfl), rfl⟩
/-- A slice that owns its block, or is nil. -/
def slA (t : TypeId) (k : IntKind) (v : Value) (xs : List Int) : Ast where
  holds w F := Sl w t k v xs ∧ F = fun i => v.ownBlock = some i
  lt := fun ⟨h, e⟩ hk => by subst e; exact h.lt hk
  move := fun ⟨h, e⟩ hs => by subst e; exact ⟨h.of_same fun g hg => hs g hg, rfl⟩
/-- A block known whole. -/
def blkA (g : Nat) (t : TypeId) (cs : Array Value) : Ast where
  holds w F := Blk w g t cs ∧ F = fun i => i = g
  lt := fun ⟨h, e⟩ hk => by subst e; subst hk; exact h.lt
  move := fun ⟨h, e⟩ hs => by subst e; exact ⟨h.of_same (hs _ rfl), rfl⟩
section
variable {W w w' : World} {t : TypeId} {k : IntKind} {g cap : Nat} {xs : List Int} {v : Value} {cs : Array Value} {l : List Ast}
theorem Hp.row (h : Hp W w (rowA t k g cap xs :: l)) : RowI w t k g cap xs := by obtain ⟨F, h1, _⟩ := h.open1; exact h1.1
theorem Hp.row_ge (h : Hp W w (rowA t k g cap xs :: l)) : W.heap.size ≤ g ∧ g < w.heap.size := by obtain ⟨F, ⟨_, rfl⟩, h2, _⟩ := h.open1; exact h2 g rfl
theorem Hp.sl (h : Hp W w (slA t k v xs :: l)) : Sl w t k v xs := by obtain ⟨F, h1, _⟩ := h.open1; exact h1.1
theorem Hp.blk (h : Hp W w (blkA g t cs :: l)) : Blk w g t cs := by obtain ⟨F, h1, _⟩ := h.open1; exact h1.1
theorem Hp.blk_ge (h : Hp W w (blkA g t cs :: l)) : W.heap.size ≤ g ∧ g < w.heap.size := by obtain ⟨F, ⟨_, rfl⟩, h2, _⟩ := h.open1; exact h2 g rfl
theorem Hp.row_sl (h : Hp W w (rowA t k g cap xs :: l)) {n : Nat} (hn : xs.length = n) : Hp W w (slA t k (.slice (some ⟨g, 0, none⟩) n cap) xs :: l) :=
  h.say fun F ⟨h1, h2⟩ => ⟨by subst hn; exact Sl.row h1, by subst h2; funext i; exact propext ⟨fun e => by subst e; rfl, fun e => by injection e with e; exact e.symm⟩⟩
theorem Hp.set (h : Hp W w (rowA t k g cap xs :: l)) (i : Nat) (x : Int) : Hp W (w.setCell ⟨g, i, none⟩ (.int k x)) (rowA t k g cap (xs.set i x) :: l) :=
  h.turn fun F ⟨h1, h2⟩ => ⟨(Only.refl F w).set (p := ⟨g, i, none⟩) (.inl (by subst h2; rfl)) _, F, ⟨h1.set i x, h2⟩, fun _ h => .inl h⟩
theorem Hp.bset (h : Hp W w (blkA g t cs :: l)) (i : Nat) (u : Value) : Hp W (w.setCell ⟨g, i, none⟩ u) (blkA g t (cs.setIfInBounds i u) :: l) :=
  h.turn fun F ⟨h1, h2⟩ => ⟨(Only.refl F w).set (p := ⟨g, i, none⟩) (.inl (by subst h2; rfl)) _, F, ⟨h1.set i u, h2⟩, fun _ h => .inl h⟩
theorem Hp.new_row (h : Hp W w l) (t : TypeId) (k : IntKind) (n : Nat) (x : Int) (hn : n ≤ maxLen) : Hp W (w.alloc (.cells (madeCells #[.int k x] n) t)) (rowA t k w.heap.size n (List.replicate n x) :: l) :=
  h.new ((Below.refl _ _).alloc (Nat.le_refl _) _) (A' := rowA t k w.heap.size n (List.replicate n x)) ⟨RowI.new w t k n x hn, rfl⟩ (fun i e => by subst e; exact Nat.le_refl _)
theorem Hp.new_blk (h : Hp W w l) (t : TypeId) (cs : Array Value) : Hp W (w.alloc (.cells cs t)) (blkA w.heap.size t cs :: l) :=
  h.new ((Below.refl _ _).alloc (Nat.le_refl _) _) (A' := blkA w.heap.size t cs) ⟨Blk.new w t cs, rfl⟩ (fun i e => by subst e; exact Nat.le_refl _)
/-- A row that a callee made. -/
theorem Hp.add_row (h : Hp W w l) (b : Below w.heap.size w w') (r : RowI w' t k g cap xs) (hg : w.heap.size ≤ g) : Hp W w' (rowA t k g cap xs :: l) :=
  h.new b (A' := rowA t k g cap xs) ⟨r, rfl⟩ (fun i e => by subst e; exact hg)
theorem Hp.add_sl (h : Hp W w l) (b : Below w.heap.size w w') (r : Sl w' t k v xs) (hg : ∀ g, v.ownBlock = some g → w.heap.size ≤ g) : Hp W w' (slA t k v xs :: l) :=
  h.new b (A' := slA t k v xs) ⟨r, rfl⟩ (fun i e => hg i e)
theorem Hp.push (h : Hp W w (slA t k v xs :: l)) {g cap H : Nat} {ys : List Int} (p : Pushed w w' t k v g cap ys H) (hH : w.heap.size ≤ H) : Hp W w' (rowA t k g cap ys :: l) :=
  h.turn fun F ⟨h1, h2⟩ => ⟨by subst h2; exact p.only, _, ⟨p.row, rfl⟩, fun i e => by
    subst e
    subst h2
    rcases p.at_ with h | h
    · exact .inl h
    · right; omega⟩
end
/-- The text of bytes. -/
theorem Src.str {P : Program} {w : World} {src dst e : TypeId} (hs : P.underlying src = some (.slice e)) (he : P.underlying e = some (.int .u8)) (hd : P.underlying dst = some .string) {u : Value} {xs : List Int} (h : Src w .u8 u xs) :
    (convert src dst u).run P w = .ok (.string (strOfNums xs)) w := by
  obtain ⟨A, c, rfl, h⟩ := h
  rw [run_convert_bytes_string w src dst e A xs.length c hs he hd]
  cases A with
  | none =>
    have h0 : xs = [] := by
      rcases Nat.eq_zero_or_pos xs.length with h0 | h0
      · exact List.eq_nil_of_length_eq_zero h0
      · obtain ⟨ad, e, _⟩ := h h0; cases e
    subst h0
    simp [Conv.bytesToString, strOfNums]
    rfl
  | some a =>
    have hl : (loadCells a xs.length).run P w = .ok (xs.map (Value.int .u8)).toArray w := by
      have := run_loadCells_list (P := P) w a (xs.map (Value.int .u8)) (fun j v hj => by
        have hjl : j < xs.length := by
          rcases Nat.lt_or_ge j xs.length with h | h
          · exact h
          · simp [List.getElem?_eq_none (show (xs.map (Value.int .u8)).length ≤ j by simpa using h)] at hj
        obtain ⟨ad, e, hc⟩ := h (by omega)
        injection e with e
        subst e
        rw [hc j hjl]
        simp [List.getElem?_eq_getElem hjl] at hj
        rw [← hj])
      simpa using this
    rw [run_bytesToString w a xs.length c xs hl, foldl_push_bytes]
    simp [strOfNums, ByteArray.empty, ByteArray.emptyWithCapacity]
    rfl
end Go.Proofs.YtdekdcleeignoaaDoor
