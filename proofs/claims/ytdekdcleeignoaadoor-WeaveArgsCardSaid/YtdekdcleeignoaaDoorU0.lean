/-
  Words for memory, for all walks of this seat: a block known whole, what only some blocks turn, and lists of objects that share no block. Plain theorems; no condition.
-/
import Derived.Tactics
import Derived.Tactics2
import Derived.WalkKit
import Derived.WalkSpells
import Derived.WalkLawsBesides
import Derived.Below
import Derived.Deep.LoopGhost
import Derived.Deep.QuietTactic
import Derived.BigQuiet
import Derived.StillTailTactics
import Derived.Deep.DeepCutAuto
import Derived.Deep.CutBlock
import Derived.Deep.RegionHeld3
import Derived.RegionTactic
import Derived.BigRegion
import Derived.Outline
import Derived.Lib.Hide
import Derived.Deep.Draws
import Derived.Laws.Rows
import Derived.Laws.OwnMore
import Derived.Laws.MakeOwn
import Derived.KernelRfl
set_option linter.unusedVariables false
namespace Go.Proofs.YtdekdcleeignoaaDoor
open Go.RowKit

/-- Block g is just these cells, none of them frozen. -/
def Blk (w : World) (g : Nat) (t : TypeId) (cs : Array Value) : Prop := w.heap[g]? = some (.cells cs t (0, 0))
section
variable {w w' : World} {g k i : Nat} {t : TypeId} {cs : Array Value} {v : Value}
theorem Blk.lt (h : Blk w g t cs) : g < w.heap.size := by
  rcases Nat.lt_or_ge g w.heap.size with hlt | hge
  · exact hlt
  · unfold Blk at h; rw [Array.getElem?_eq_none hge] at h; cases h
theorem Blk.cell (h : Blk w g t cs) (hi : cs[i]? = some v) : w.cell? ⟨g, i, none⟩ = some v := by
  unfold Blk at h; simp [World.cell?, h, hi]
theorem Blk.free (h : Blk w g t cs) (i : Nat) : w.frozen? ⟨g, i, none⟩ = false := by
  unfold Blk at h; simp [World.frozen?, h]
theorem Blk.of_same (h : Blk w g t cs) (e : w'.heap[g]? = w.heap[g]?) : Blk w' g t cs := by unfold Blk at *; rw [e, h]
theorem Blk.drew (h : Blk w g t cs) : Blk w.drew g t cs := h
theorem Blk.drewN (h : Blk w g t cs) (n : Nat) : Blk (w.drewN n) g t cs := h
theorem Blk.alloc (h : Blk w g t cs) (o : Obj) : Blk (w.alloc o) g t cs := h.of_same (Below.heap_alloc w o g h.lt)
theorem Blk.new (w : World) (t : TypeId) (cs : Array Value) : Blk (w.alloc (.cells cs t)) w.heap.size t cs := by
  show (w.heap.push _)[w.heap.size]? = _
  rw [Array.getElem?_push, if_pos rfl]
theorem Blk.new_at {w : World} {g : Nat} (t : TypeId) (cs : Array Value) (hg : g = w.heap.size) : Blk (w.alloc (.cells cs t)) g t cs := by subst hg; exact Blk.new w t cs
theorem Blk.row (h : Blk w g t cs) (cs' : Array Value) : Blk (w.setRow g cs') g t cs' := setRow_heap w g cs cs' t (0, 0) h
theorem Blk.row_other (h : Blk w g t cs) {k : Nat} (hne : g ≠ k) (cs' : Array Value) : Blk (w.setRow k cs') g t cs := h.of_same (setRow_other w k g cs' hne)
theorem Blk.other (h : Blk w g t cs) {a : Addr} (hne : g ≠ a.block) (u : Value) : Blk (w.setCell a u) g t cs := h.of_same (Below.heap_setCell w a u g hne)
theorem Blk.set (h : Blk w g t cs) (i : Nat) (u : Value) : Blk (w.setCell ⟨g, i, none⟩ u) g t (cs.setIfInBounds i u) := by
  unfold Blk at *
  simp [World.setCell, Array.getElem?_modify, h]
theorem Blk.below {B : Nat} (h : Blk w g t cs) (hb : Below B w w') (hg : g < B) : Blk w' g t cs := h.of_same (hb.block g hg)
theorem Blk.inj {t' : TypeId} {cs' : Array Value} (h : Blk w g t cs) (h' : Blk w g t' cs') : t = t' ∧ cs = cs' := by
  unfold Blk at *; rw [h] at h'; simp at h'; exact ⟨h'.2, h'.1⟩
end

/-- Block g begins with these numbers, and has cap cells. -/
def RowI (w : World) (e : TypeId) (k : IntKind) (g cap : Nat) (xs : List Int) : Prop :=
  ∃ cs, Blk w g e cs ∧ xs.length ≤ cap ∧ cap ≤ maxLen ∧ cs.size = cap ∧ ∀ i (h : i < xs.length), cs[i]? = some (.int k xs[i])
section
variable {w w' : World} {e : TypeId} {k : IntKind} {g cap : Nat} {xs : List Int}
theorem RowI.lt (h : RowI w e k g cap xs) : g < w.heap.size := by obtain ⟨cs, hb, _⟩ := h; exact hb.lt
theorem RowI.free (h : RowI w e k g cap xs) (i : Nat) : w.frozen? ⟨g, i, none⟩ = false := by obtain ⟨cs, hb, _⟩ := h; exact hb.free i
theorem RowI.cell (h : RowI w e k g cap xs) {i : Nat} (hi : i < xs.length) : w.cell? ⟨g, i, none⟩ = some (.int k xs[i]) := by obtain ⟨cs, hb, _, _, _, hc⟩ := h; exact hb.cell (hc i hi)
theorem RowI.len (h : RowI w e k g cap xs) : xs.length ≤ cap ∧ cap ≤ maxLen := by obtain ⟨cs, _, h1, h2, _⟩ := h; exact ⟨h1, h2⟩
theorem RowI.of_same (h : RowI w e k g cap xs) (hs : w'.heap[g]? = w.heap[g]?) : RowI w' e k g cap xs := by obtain ⟨cs, hb, h1⟩ := h; exact ⟨cs, hb.of_same hs, h1⟩
theorem RowI.drewN (h : RowI w e k g cap xs) (n : Nat) : RowI (w.drewN n) e k g cap xs := h
theorem RowI.drew (h : RowI w e k g cap xs) : RowI w.drew e k g cap xs := h
theorem RowI.alloc (h : RowI w e k g cap xs) (o : Obj) : RowI (w.alloc o) e k g cap xs := h.of_same (Below.heap_alloc w o g h.lt)
theorem RowI.other (h : RowI w e k g cap xs) {a : Addr} (hne : g ≠ a.block) (u : Value) : RowI (w.setCell a u) e k g cap xs := h.of_same (Below.heap_setCell w a u g hne)
theorem RowI.below {B : Nat} (h : RowI w e k g cap xs) (hb : Below B w w') (hg : g < B) : RowI w' e k g cap xs := h.of_same (hb.block g hg)
theorem RowI.set (h : RowI w e k g cap xs) (i : Nat) (v : Int) : RowI (w.setCell ⟨g, i, none⟩ (.int k v)) e k g cap (xs.set i v) := by
  obtain ⟨cs, hb, h1, h2, h3, hc⟩ := h
  refine ⟨_, hb.set i _, by simpa using h1, h2, by simpa using h3, fun j hj => ?_⟩
  rw [List.length_set] at hj
  rw [List.getElem_set, Array.getElem?_setIfInBounds]
  by_cases hij : i = j
  · subst hij
    rw [if_pos rfl, if_pos rfl, if_pos (by omega)]
  · rw [if_neg hij, if_neg hij]; exact hc j hj
theorem RowI.new (w : World) (e : TypeId) (k : IntKind) (n : Nat) (v : Int) (hn : n ≤ maxLen) : RowI (w.alloc (.cells (madeCells #[.int k v] n) e)) e k w.heap.size n (List.replicate n v) := by
  refine ⟨_, Blk.new _ _ _, by simp, hn, by simp [madeCells], fun i hi => ?_⟩
  simp at hi
  simp [madeCells, hi, Nat.mod_one]
end

/-- Of what was there, only blocks of S may have turned. -/
structure Only (S : Nat → Prop) (w w' : World) : Prop where
  os : w'.os = w.os
  tape : w'.tape = w.tape
  output : w'.output = w.output
  size : w.heap.size ≤ w'.heap.size
  block : ∀ k, k < w.heap.size → ¬ S k → w'.heap[k]? = w.heap[k]?
section
variable {S S' : Nat → Prop} {a b c w w' : World}
theorem Only.refl (S : Nat → Prop) (w : World) : Only S w w := ⟨rfl, rfl, rfl, Nat.le_refl _, fun _ _ _ => rfl⟩
theorem Only.trans (h : Only S a b) (k : Only S b c) : Only S a c :=
  ⟨k.os.trans h.os, k.tape.trans h.tape, k.output.trans h.output, Nat.le_trans h.size k.size, fun i hi hs => (k.block i (Nat.lt_of_lt_of_le hi h.size) hs).trans (h.block i hi hs)⟩
/-- Behind a step that may turn what lies from the first world's end on, too. -/
theorem Only.then (h : Only S a b) (k : Only S' b c) (hs : ∀ i, S' i → S i ∨ a.heap.size ≤ i) : Only S a c :=
  ⟨k.os.trans h.os, k.tape.trans h.tape, k.output.trans h.output, Nat.le_trans h.size k.size, fun i hi hn => (k.block i (Nat.lt_of_lt_of_le hi h.size) (fun e => by rcases hs i e with h1 | h1; exact hn h1; omega)).trans (h.block i hi hn)⟩
theorem Only.mono (h : Only S a b) (hs : ∀ i, S i → S' i) : Only S' a b := ⟨h.os, h.tape, h.output, h.size, fun i hi hn => h.block i hi (fun e => hn (hs i e))⟩
theorem Only.drew (h : Only S a w) : Only S a w.drew := ⟨h.os, h.tape, h.output, h.size, h.block⟩
theorem Only.drewN (h : Only S a w) (n : Nat) : Only S a (w.drewN n) := ⟨h.os, h.tape, h.output, h.size, h.block⟩
theorem Only.alloc (h : Only S a w) (o : Obj) : Only S a (w.alloc o) :=
  ⟨h.os, h.tape, h.output, Nat.le_trans h.size (by simp), fun i hi hn => (Below.heap_alloc w o i (Nat.lt_of_lt_of_le hi h.size)).trans (h.block i hi hn)⟩
theorem Only.set (h : Only S a w) {p : Addr} (hp : S p.block ∨ a.heap.size ≤ p.block) (u : Value) : Only S a (w.setCell p u) :=
  ⟨h.os, h.tape, h.output, by simpa [World.setCell] using h.size, fun i hi hn => (Below.heap_setCell w p u i (by
    rintro rfl
    rcases hp with hp | hp
    · exact hn hp
    · omega)).trans (h.block i hi hn)⟩
theorem Only.row (h : Only S a w) {g : Nat} (hp : S g ∨ a.heap.size ≤ g) (cs : Array Value) : Only S a (w.setRow g cs) :=
  ⟨h.os, h.tape, h.output, by simpa using h.size, fun i hi hn => (setRow_other w g i cs (by
    rintro rfl
    rcases hp with hp | hp
    · exact hn hp
    · omega)).trans (h.block i hi hn)⟩
theorem Only.of_below (h : Below a.heap.size a b) : Only S a b := ⟨h.os, h.tape, h.output, h.size, fun i hi _ => h.block i hi⟩
theorem Only.below {B : Nat} (h : Only S a b) (hB : B ≤ a.heap.size) (hs : ∀ i, S i → B ≤ i) : Below B a b :=
  ⟨h.os, h.tape, h.output, h.size, fun i hi => h.block i (by omega) (fun e => by have := hs i e; omega)⟩
theorem Only.grown (h : Only S a w) {row : Option Nat} (hg : w.grownBy w' row) (hr : ∀ g, row = some g → S g ∨ a.heap.size ≤ g) : Only S a w' :=
  ⟨hg.os.trans h.os, hg.tape.trans h.tape, hg.output.trans h.output, Nat.le_trans h.size hg.size, fun i hi hn => (hg.block i (Nat.lt_of_lt_of_le hi h.size) (fun e => by
    rcases hr i e.symm with h1 | h1
    · exact hn h1
    · omega)).trans (h.block i hi hn)⟩
end

theorem below_row {B : Nat} {a w : World} (h : Below B a w) {g : Nat} (hp : B ≤ g) (cs : Array Value) : Below B a (w.setRow g cs) :=
  h.trans ⟨rfl, rfl, rfl, by simp, fun k hk => setRow_other w g k cs (by omega)⟩
/-- What is told of a world, on some blocks alone. -/
structure Ast where
  holds : World → (Nat → Prop) → Prop
  lt : ∀ {w F k}, holds w F → F k → k < w.heap.size
  move : ∀ {w w' F}, holds w F → (∀ k, F k → w'.heap[k]? = w.heap[k]?) → holds w' F
/-- Objects, each on blocks of its own from B on, none of U. -/
def Sep (w : World) (B : Nat) : (Nat → Prop) → List Ast → Prop
  | _, [] => True
  | U, A :: l => ∃ F, A.holds w F ∧ (∀ k, F k → B ≤ k ∧ ¬ U k) ∧ Sep w B (fun k => U k ∨ F k) l
def Em : Nat → Prop := fun _ => False
theorem Sep.weak {w : World} {B : Nat} : ∀ {l : List Ast} {U U' : Nat → Prop}, (∀ k, U' k → U k) → Sep w B U l → Sep w B U' l
  | [], _, _, _, _ => trivial
  | A :: l, U, U', hu, ⟨F, h1, h2, h3⟩ => ⟨F, h1, fun k hk => ⟨(h2 k hk).1, fun e => (h2 k hk).2 (hu k e)⟩, Sep.weak (fun k hk => hk.imp (hu k) id) h3⟩
/-- What turns no block of theirs. -/
theorem Sep.only {w w' : World} {B : Nat} {S : Nat → Prop} (ho : Only S w w') : ∀ {l : List Ast} {U : Nat → Prop}, (∀ k, S k → U k) → Sep w B U l → Sep w' B U l
  | [], _, _, _ => trivial
  | A :: l, U, hs, ⟨F, h1, h2, h3⟩ => ⟨F, A.move h1 fun k hk => ho.block k (A.lt h1 hk) (fun e => (h2 k hk).2 (hs k e)), h2, Sep.only ho (fun k hk => .inl (hs k hk)) h3⟩
theorem Sep.swap {w : World} {B : Nat} {U : Nat → Prop} {A A' : Ast} {l : List Ast} (h : Sep w B U (A :: A' :: l)) : Sep w B U (A' :: A :: l) := by
  obtain ⟨F, h1, h2, F', h3, h4, h5⟩ := h
  exact ⟨F', h3, fun k hk => ⟨(h4 k hk).1, fun e => (h4 k hk).2 (.inl e)⟩, F, h1, fun k hk => ⟨(h2 k hk).1, fun e => e.elim (h2 k hk).2 fun e' => (h4 k e').2 (.inr hk)⟩, Sep.weak (fun k hk => by rcases hk with (hk | hk) | hk; exact .inl (.inl hk); exact .inr hk; exact .inl (.inr hk)) h5⟩
theorem Sep.tail {w : World} {B : Nat} {U : Nat → Prop} {A : Ast} {l : List Ast} (h : Sep w B U (A :: l)) : Sep w B U l := by
  obtain ⟨F, _, _, h3⟩ := h
  exact Sep.weak (fun k hk => .inl hk) h3
theorem Sep.cons {w : World} {B : Nat} {U : Nat → Prop} {A : Ast} : ∀ {l l' : List Ast}, (∀ U, Sep w B U l → Sep w B U l') → Sep w B U (A :: l) → Sep w B U (A :: l') :=
  fun hl ⟨F, h1, h2, h3⟩ => ⟨F, h1, h2, hl _ h3⟩
/-- The third, the fourth .. one to the front, and back. -/
theorem Sep.up2 {w : World} {B : Nat} {U : Nat → Prop} {A1 A2 A3 : Ast} {l : List Ast} (h : Sep w B U (A1 :: A2 :: A3 :: l)) : Sep w B U (A3 :: A1 :: A2 :: l) := (Sep.cons (fun _ => Sep.swap) h).swap
theorem Sep.up3 {w : World} {B : Nat} {U : Nat → Prop} {A1 A2 A3 A4 : Ast} {l : List Ast} (h : Sep w B U (A1 :: A2 :: A3 :: A4 :: l)) : Sep w B U (A4 :: A1 :: A2 :: A3 :: l) := (Sep.cons (fun _ => Sep.up2) h).swap
theorem Sep.up4 {w : World} {B : Nat} {U : Nat → Prop} {A1 A2 A3 A4 A5 : Ast} {l : List Ast} (h : Sep w B U (A1 :: A2 :: A3 :: A4 :: A5 :: l)) : Sep w B U (A5 :: A1 :: A2 :: A3 :: A4 :: l) := (Sep.cons (fun _ => Sep.up3) h).swap
theorem Sep.up5 {w : World} {B : Nat} {U : Nat → Prop} {A1 A2 A3 A4 A5 A6 : Ast} {l : List Ast} (h : Sep w B U (A1 :: A2 :: A3 :: A4 :: A5 :: A6 :: l)) : Sep w B U (A6 :: A1 :: A2 :: A3 :: A4 :: A5 :: l) := (Sep.cons (fun _ => Sep.up4) h).swap
theorem Sep.down2 {w : World} {B : Nat} {U : Nat → Prop} {A1 A2 A3 : Ast} {l : List Ast} (h : Sep w B U (A3 :: A1 :: A2 :: l)) : Sep w B U (A1 :: A2 :: A3 :: l) := Sep.cons (fun _ => Sep.swap) h.swap
theorem Sep.down3 {w : World} {B : Nat} {U : Nat → Prop} {A1 A2 A3 A4 : Ast} {l : List Ast} (h : Sep w B U (A4 :: A1 :: A2 :: A3 :: l)) : Sep w B U (A1 :: A2 :: A3 :: A4 :: l) := Sep.cons (fun _ => Sep.down2) h.swap
theorem Sep.down4 {w : World} {B : Nat} {U : Nat → Prop} {A1 A2 A3 A4 A5 : Ast} {l : List Ast} (h : Sep w B U (A5 :: A1 :: A2 :: A3 :: A4 :: l)) : Sep w B U (A1 :: A2 :: A3 :: A4 :: A5 :: l) := Sep.cons (fun _ => Sep.down3) h.swap
theorem Sep.down5 {w : World} {B : Nat} {U : Nat → Prop} {A1 A2 A3 A4 A5 A6 : Ast} {l : List Ast} (h : Sep w B U (A6 :: A1 :: A2 :: A3 :: A4 :: A5 :: l)) : Sep w B U (A1 :: A2 :: A3 :: A4 :: A5 :: A6 :: l) := Sep.cons (fun _ => Sep.down4) h.swap
/-- An object is turned, or replaced, and blocks are made. -/
theorem Sep.turn {w w' : World} {B : Nat} {U F F' : Nat → Prop} {A' : Ast} {l : List Ast} (hF : ∀ k, F k → B ≤ k ∧ ¬ U k) (hl : Sep w B (fun k => U k ∨ F k) l) (hU : ∀ k, U k → k < w.heap.size) (hB : B ≤ w.heap.size)
    (ho : Only F w w') (h' : A'.holds w' F') (hsub : ∀ k, F' k → F k ∨ w.heap.size ≤ k) : Sep w' B U (A' :: l) := by
  refine ⟨F', h', fun k hk => ?_, ?_⟩
  · rcases hsub k hk with h | h
    · exact hF k h
    · exact ⟨by omega, fun e => by have := hU k e; omega⟩
  · have h1 := Sep.only ho (fun k hk => .inr hk) hl
    have go : ∀ {l : List Ast} {V : Nat → Prop}, (∀ k, F k → V k) → Sep w B V l → Sep w' B V l → Sep w' B (fun k => V k ∨ F' k) l := by
      intro l
      induction l with
      | nil => intro V hV _ _; trivial
      | cons A l ih =>
        intro V hV ⟨G, g1, g2, g3⟩ _
        have g1' := A.move g1 fun k hk => ho.block k (A.lt g1 hk) (fun e => (g2 k hk).2 (hV k e))
        refine ⟨G, g1', fun k hk => ⟨(g2 k hk).1, fun e => ?_⟩, ?_⟩
        · rcases e with e | e
          · exact (g2 k hk).2 e
          · rcases hsub k e with h | h
            · exact (g2 k hk).2 (hV k h)
            · have := A.lt g1 hk; omega
        · have := ih (V := fun k => V k ∨ G k) (fun k hk => .inl (hV k hk)) g3 (Sep.only ho (fun k hk => .inl (hV k hk)) g3)
          exact Sep.weak (fun k hk => by rcases hk with (hk | hk) | hk; exact .inl (.inl hk); exact .inr hk; exact .inl (.inr hk)) this
    exact Sep.weak (fun k hk => hk.imp (fun e => .inl e) id) (go (V := fun k => U k ∨ F k) (fun k hk => .inr hk) hl h1)
/-- A new object. -/
theorem Sep.new {w w' : World} {B : Nat} {F' : Nat → Prop} {A' : Ast} {l : List Ast} (hl : Sep w B Em l) (hB : B ≤ w.heap.size)
    (ho : Below w.heap.size w w') (h' : A'.holds w' F') (hnew : ∀ k, F' k → w.heap.size ≤ k) : Sep w' B Em (A' :: l) :=
  Sep.turn (F := Em) (fun _ h => h.elim) (Sep.weak (fun k hk => hk.elim id id) hl) (fun _ h => h.elim) hB (Only.of_below ho) h' (fun k hk => .inr (hnew k hk))
theorem Sep.below {w w' : World} {B : Nat} {l : List Ast} (hl : Sep w B Em l) (ho : Below w.heap.size w w') : Sep w' B Em l := Sep.only (Only.of_below ho) (fun _ h => h) hl
end Go.Proofs.YtdekdcleeignoaaDoor
